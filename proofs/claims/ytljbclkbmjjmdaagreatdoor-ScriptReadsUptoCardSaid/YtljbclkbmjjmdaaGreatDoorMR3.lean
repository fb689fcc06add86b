/- The walk of an event that the reference reads. -/
import Derived.Test.YtljbclkbmjjmdaaGreatDoorU1
import Derived.Test.YtljbclkbmjjmdaaGreatDoorP2
namespace Go.Proofs.YtljbclkbmjjmdaaGreatDoor
open Go.RowKit Go.Shelf
theorem ev_decide2 (s sk sr sa sv : ByteArray) (t v : Int) (A B C D L E : Bool)
    (hsk : sk = ByteArray.mk (cut1 64 s.data.toList).1.toArray) (hsr : sr = ByteArray.mk (cut1 64 s.data.toList).2.1.toArray) (hA : A = (cut1 64 s.data.toList).2.2)
    (hsa : sa = ByteArray.mk (cut1 58 sr.data.toList).1.toArray) (hsv : sv = ByteArray.mk (cut1 58 sr.data.toList).2.1.toArray) (hB : B = (cut1 58 sr.data.toList).2.2)
    (hC : (C = true ∧ NumL (bytesL sa) t) ∨ (C = false ∧ ∀ v, ¬ NumL (bytesL sa) v)) (hD : (D = true ∧ IsNum sv v) ∨ (D = false ∧ ∀ u, ¬ IsNum sv u))
    (hL : L = lettersB sk) (hE : E = eventB ⟨sk, t, v⟩) (hk : WfS sk) :
    ((A && B && C && D && L && E) = true ∧ IsEv s ⟨sk, t, v⟩) ∨ ((A && B && C && D && L && E) = false ∧ ∀ y, ¬ IsEv s y) := by
  rcases hC with ⟨h, k⟩ | ⟨h, k⟩
  · exact ev_decide s sk sr sa sv t v A B C D L E hsk hsr hA hsa hsv hB (.inl ⟨h, k.1, k.2.1⟩) hD hL hE hk
  · refine .inr ⟨by rw [h]; simp, fun y hy => ?_⟩
    obtain ⟨c1, c2⟩ := isEv_cut hy
    rw [c1] at hsr
    have e2 : sr.data.toList = Lib.itoa y.at_ ++ 58 :: Lib.itoa y.val := by rw [hsr]
    rw [e2, c2] at hsa
    have h0 := hy.2.2.2
    simp only [eventB, decide_eq_true_eq] at h0
    exact k y.at_ ⟨hy.2.1.2.1, by rw [hsa]; simp [bytesL], h0.2.2.1⟩
set_option maxHeartbeats 1000000 in
set_option maxRecDepth 100000 in
theorem event24 (s : ByteArray) (hl : WfS s) (w : World) : Calls Tryz.prog 49 #[.string s] w (EvPost s w) := by
  unfold WfS at hl
  obtain ⟨sk, hsk⟩ : ∃ x, x = ByteArray.mk (cut1 64 s.data.toList).1.toArray := ⟨_, rfl⟩
  obtain ⟨sr, hsr⟩ : ∃ x, x = ByteArray.mk (cut1 64 s.data.toList).2.1.toArray := ⟨_, rfl⟩
  obtain ⟨A, hA⟩ : ∃ x, x = (cut1 64 s.data.toList).2.2 := ⟨_, rfl⟩
  obtain ⟨sa, hsa⟩ : ∃ x, x = ByteArray.mk (cut1 58 sr.data.toList).1.toArray := ⟨_, rfl⟩
  obtain ⟨sv, hsv⟩ : ∃ x, x = ByteArray.mk (cut1 58 sr.data.toList).2.1.toArray := ⟨_, rfl⟩
  obtain ⟨B, hB⟩ : ∃ x, x = (cut1 58 sr.data.toList).2.2 := ⟨_, rfl⟩
  have hlr : sr.size ≤ s.size := by rw [hsr, mk_size]; exact (cut1_len 64 _).2
  have hlk : sk.size ≤ s.size := by rw [hsk, mk_size]; exact (cut1_len 64 _).1
  have hla : sa.size ≤ s.size := by rw [hsa, mk_size]; exact Nat.le_trans (cut1_len 58 _).1 hlr
  have hlv : sv.size ≤ s.size := by rw [hsv, mk_size]; exact Nat.le_trans (cut1_len 58 _).2 hlr
  have h1 := fun W => part_ref s (by unfold WfS; omega) 64 64 (Lib.hid rfl) W
  have h2 := fun W => part_ref sr (by unfold WfS; omega) 58 58 (Lib.hid rfl) W
  rw [← hsk, ← hsr, ← hA] at h1
  rw [← hsa, ← hsv, ← hB] at h2
  have H1 := fun W => Lib.hid (h1 W)
  have H2 := fun W => Lib.hid (h2 W)
  have H3 := fun W => Lib.hid (number24 sa (by unfold WfS; omega) W)
  have H4 := fun W => Lib.hid (signed_ref sv (by unfold WfS; omega) W)
  have HE := Lib.hid (show (sk = ByteArray.mk (cut1 64 s.data.toList).1.toArray ∧ sr = ByteArray.mk (cut1 64 s.data.toList).2.1.toArray ∧ A = (cut1 64 s.data.toList).2.2) ∧ (sa = ByteArray.mk (cut1 58 sr.data.toList).1.toArray ∧ sv = ByteArray.mk (cut1 58 sr.data.toList).2.1.toArray ∧ B = (cut1 58 sr.data.toList).2.2) from ⟨⟨hsk, hsr, hA⟩, hsa, hsv, hB⟩)
  clear h1 h2 hsk hsr hA hsa hsv hB
  go_enter Tryz.func49, Tryz.ntmps49
  go_wp2_with (go_at_call 85; first | ((with_reducible refine (H1 _).out.mono ?_); rintro r w1 ⟨rfl, hb1⟩) | ((with_reducible refine (H2 _).out.mono ?_); rintro r w2 ⟨rfl, hb2⟩))
  refine (H3 w2).out.mono ?_
  rintro r w3 ⟨t, C, rfl, ht, _, hb3, hC⟩
  go_wp2_with fail
  refine (H4 w3).out.mono ?_
  rintro r w4 ⟨v, D, rfl, hv, hb4, hD⟩
  have hb : Below w.heap.size w w4 := by (repeat (first | exact Below.refl _ _ | assumption | refine ext_alloc ?_ _ | refine below_drewN ?_ _ | refine ext_drew ?_ | (refine below_tr ?_ (by assumption))))
  obtain ⟨W0, hW0⟩ : ∃ W0, W0 = w4.alloc (.cells #[.string sk, .int .i64 t, .int .i64 v] 82) := ⟨_, rfl⟩
  have c0 : W0.cell? ⟨w4.heap.size, 0, none⟩ = some (.string sk) := by rw [hW0]; exact box_cell _ _ _ _ _ rfl
  have c1 : W0.cell? ⟨w4.heap.size, 1, none⟩ = some (.int .i64 t) := by rw [hW0]; exact box_cell _ _ _ _ _ rfl
  have c2 : W0.cell? ⟨w4.heap.size, 2, none⟩ = some (.int .i64 v) := by rw [hW0]; exact box_cell _ _ _ _ _ rfl
  have hz : w4.heap.size < W0.heap.size := by rw [hW0]; simp
  have hsz4 := hb.size
  have hne : some (⟨w4.heap.size, 0, none⟩ : Addr).block ≠ some w.heap.size := by
    intro h'
    have h' := Option.some.inj h'
    have q1 := hb1.size
    have q2 := hb2.size
    have q3 := hb3.size
    have q4 := hb4.size
    simp at q1
    simp at h'
    omega
  have HLT := fun W => Lib.hid ((letters_ref sk (by unfold WfS; omega) W).mono (R' := fun r w' => r = .returned (.bool (lettersB sk)) ∧ Below W.heap.size W w') fun _ _ ⟨he, hw⟩ => ⟨he, hw ▸ Below.refl _ _⟩)
  obtain ⟨L, hL⟩ : ∃ L, L = lettersB sk := ⟨_, rfl⟩
  have HEV := fun W => Lib.hid (event_ref ⟨sk, t, v⟩ ⟨by unfold WfS; show sk.size ≤ _; omega, ht, hv⟩ W)
  obtain ⟨E, hE⟩ : ∃ E, E = eventB ⟨sk, t, v⟩ := ⟨_, rfl⟩
  rw [← hL] at HLT
  rw [← hE] at HEV
  have HLE := Lib.hid (And.intro hL hE)
  have hbk : Blk3 82 w.heap.size W0 := by
    rw [hW0]
    exact blk3_below ((Below.refl _ w4).alloc (Nat.le_refl _) _) (blk3_below hb4 (blk3_below hb3 (blk3_below hb2 (blk3_below hb1 ⟨_, _, _, heap_alloc_new w _⟩))))
  have HCD := Lib.hid (And.intro hC hD)
  have HW0 := Lib.hid hW0
  clear hL hE hC hD hW0 H1 H2 H3 H4
  go_wp2_with fail
  rw [← HW0.out]
  refine wp_region_guard (by kernel_rfl) 20 [2, 4, 6, 9, 11, 13, 14] [none, none, none, some (43, true), none, none, some (46, true), none, none, some (49, true), none, none, some (52, true), some (52, true), none, none, some (56, true), some (56, true), none, none] (by kernel_rfl) (evG w.heap.size 82 (.cells #[.string sk, .int .i64 t, .int .i64 v] 82)) (fun a b c h k => evG.trans h k) (evG.of_below (ext_drew (Below.refl _ _))) (evtSlot sk t v A B C D L E w4.heap.size w.heap.size) (fun t W W' v h hb => h) (fun i W => i = 19 → W.heap[w.heap.size]? = some (.cells #[.string sk, .int .i64 t, .int .i64 v] 82)) (fun i W W' h hg hi => hg.2.1 (h hi)) ?_ ?_ ?_
  · intro x hx W hW
    simp only [List.mem_cons, List.mem_nil_iff, or_false] at hx
    rcases hx with rfl | rfl | rfl | rfl | rfl | rfl | rfl <;> exact rfl
  · refine ⟨?_, ?_, ?_, ?_, ?_, ?_, ?_, ?_, ?_, ?_, ?_, ?_, ?_, ?_, ?_, ?_, ?_, ?_, ?_, ?_, trivial⟩
    · intro a W hG hk K hK
      have h14 : a.tmps.getD 14 undef = .pointer (some ⟨w4.heap.size, 0, none⟩) := hk 14 (List.mem_of_elem_eq_true (by kernel_rfl))
      clear hk
      have hc0 : W.cell? ⟨w4.heap.size, 0, none⟩ = some (.string sk) := hG.1.cell c0 hne
      have hc1 : W.cell? ⟨w4.heap.size, 1, none⟩ = some (.int .i64 t) := hG.1.cell c1 hne
      have hc2 : W.cell? ⟨w4.heap.size, 2, none⟩ = some (.int .i64 v) := hG.1.cell c2 hne
      simp only [Array.getD_eq_getD_getElem?] at h14 ⊢
      go_simp
      exact hK _ _ (by rintro d ⟨⟩; rfl) (evG.refl _ _ _ _) (by intro h'; omega)
    · intro a W hG hk K hK
      have h6 : a.tmps.getD 6 undef = .bool A := hk 6 (List.mem_of_elem_eq_true (by kernel_rfl))
      clear hk
      simp only [Array.getD_eq_getD_getElem?] at h6 ⊢
      go_simp
      exact hK _ _ (by rintro d ⟨⟩; rfl) (evG.refl _ _ _ _) (by intro h'; omega)
    · intro a W hG hk K hK
      have h42 : a.tmps.getD 42 undef = .bool A := hk 42 (List.mem_of_elem_eq_true (by kernel_rfl))
      clear hk
      simp only [Array.getD_eq_getD_getElem?] at h42 ⊢
      go_simp
      exact hK _ _ (by rintro d ⟨⟩; rfl) (evG.refl _ _ _ _) (by intro h'; omega)
    · intro a W hG hk K hK
      have h9 : a.tmps.getD 9 undef = .bool B := hk 9 (List.mem_of_elem_eq_true (by kernel_rfl))
      clear hk
      intro hg
      have hg : a.tmps.getD 43 undef = .bool A := hg
      refine ⟨fun hv => ?_, fun hv => ?_⟩
      · have hc : A = true := by rw [hg] at hv; injection hv
        simp only [Array.getD_eq_getD_getElem?] at h9 ⊢
        go_simp
        exact hK _ _ (by rintro d ⟨⟩; simp [evtSlot, ifB, hc]) (evG.refl _ _ _ _) (by intro h'; omega)
      · have hc : A = false := by
          cases hx : A
          · rfl
          · rw [hx] at hg; exact absurd hg hv
        exact hK _ _ (by rintro d ⟨⟩; simp [evtSlot, ifB, hc]) (evG.refl _ _ _ _) (by intro h'; omega)
    · intro a W hG hk K hK
      have h43 : a.tmps.getD 43 undef = .bool A := hk 43 (List.mem_of_elem_eq_true (by kernel_rfl))
      have h44 : a.tmps.getD 44 undef = ifB A (.bool B) := hk 44 (List.mem_of_elem_eq_true (by kernel_rfl))
      clear hk
      simp only [Array.getD_eq_getD_getElem?] at h43 h44 ⊢
      cases hc : A
      · rw [hc] at h43 h44
        simp only [ifB] at h44
        go_simp
        exact hK _ _ (by rintro d ⟨⟩; simp [evtSlot, hc]) (evG.refl _ _ _ _) (by intro h'; omega)
      · rw [hc] at h43 h44
        simp only [ifB] at h44
        go_simp
        exact hK _ _ (by rintro d ⟨⟩; simp [evtSlot, hc]) (evG.refl _ _ _ _) (by intro h'; omega)
    · intro a W hG hk K hK
      have h45 : a.tmps.getD 45 undef = .bool (A && B) := hk 45 (List.mem_of_elem_eq_true (by kernel_rfl))
      clear hk
      simp only [Array.getD_eq_getD_getElem?] at h45 ⊢
      go_simp
      exact hK _ _ (by rintro d ⟨⟩; rfl) (evG.refl _ _ _ _) (by intro h'; omega)
    · intro a W hG hk K hK
      have h11 : a.tmps.getD 11 undef = .bool C := hk 11 (List.mem_of_elem_eq_true (by kernel_rfl))
      clear hk
      intro hg
      have hg : a.tmps.getD 46 undef = .bool (A && B) := hg
      refine ⟨fun hv => ?_, fun hv => ?_⟩
      · have hc : (A && B) = true := by rw [hg] at hv; injection hv
        simp only [Array.getD_eq_getD_getElem?] at h11 ⊢
        go_simp
        exact hK _ _ (by rintro d ⟨⟩; simp [evtSlot, ifB, hc]) (evG.refl _ _ _ _) (by intro h'; omega)
      · have hc : (A && B) = false := by
          cases hx : (A && B)
          · rfl
          · rw [hx] at hg; exact absurd hg hv
        exact hK _ _ (by rintro d ⟨⟩; simp [evtSlot, ifB, hc]) (evG.refl _ _ _ _) (by intro h'; omega)
    · intro a W hG hk K hK
      have h46 : a.tmps.getD 46 undef = .bool (A && B) := hk 46 (List.mem_of_elem_eq_true (by kernel_rfl))
      have h47 : a.tmps.getD 47 undef = ifB (A && B) (.bool C) := hk 47 (List.mem_of_elem_eq_true (by kernel_rfl))
      clear hk
      simp only [Array.getD_eq_getD_getElem?] at h46 h47 ⊢
      cases hc : (A && B)
      · rw [hc] at h46 h47
        simp only [ifB] at h47
        go_simp
        exact hK _ _ (by rintro d ⟨⟩; simp [evtSlot, hc]) (evG.refl _ _ _ _) (by intro h'; omega)
      · rw [hc] at h46 h47
        simp only [ifB] at h47
        go_simp
        exact hK _ _ (by rintro d ⟨⟩; simp [evtSlot, hc]) (evG.refl _ _ _ _) (by intro h'; omega)
    · intro a W hG hk K hK
      have h48 : a.tmps.getD 48 undef = .bool (A && B && C) := hk 48 (List.mem_of_elem_eq_true (by kernel_rfl))
      clear hk
      simp only [Array.getD_eq_getD_getElem?] at h48 ⊢
      go_simp
      exact hK _ _ (by rintro d ⟨⟩; rfl) (evG.refl _ _ _ _) (by intro h'; omega)
    · intro a W hG hk K hK
      have h13 : a.tmps.getD 13 undef = .bool D := hk 13 (List.mem_of_elem_eq_true (by kernel_rfl))
      clear hk
      intro hg
      have hg : a.tmps.getD 49 undef = .bool (A && B && C) := hg
      refine ⟨fun hv => ?_, fun hv => ?_⟩
      · have hc : (A && B && C) = true := by rw [hg] at hv; injection hv
        simp only [Array.getD_eq_getD_getElem?] at h13 ⊢
        go_simp
        exact hK _ _ (by rintro d ⟨⟩; simp [evtSlot, ifB, hc]) (evG.refl _ _ _ _) (by intro h'; omega)
      · have hc : (A && B && C) = false := by
          cases hx : (A && B && C)
          · rfl
          · rw [hx] at hg; exact absurd hg hv
        exact hK _ _ (by rintro d ⟨⟩; simp [evtSlot, ifB, hc]) (evG.refl _ _ _ _) (by intro h'; omega)
    · intro a W hG hk K hK
      have h49 : a.tmps.getD 49 undef = .bool (A && B && C) := hk 49 (List.mem_of_elem_eq_true (by kernel_rfl))
      have h50 : a.tmps.getD 50 undef = ifB (A && B && C) (.bool D) := hk 50 (List.mem_of_elem_eq_true (by kernel_rfl))
      clear hk
      simp only [Array.getD_eq_getD_getElem?] at h49 h50 ⊢
      cases hc : (A && B && C)
      · rw [hc] at h49 h50
        simp only [ifB] at h50
        go_simp
        exact hK _ _ (by rintro d ⟨⟩; simp [evtSlot, hc]) (evG.refl _ _ _ _) (by intro h'; omega)
      · rw [hc] at h49 h50
        simp only [ifB] at h50
        go_simp
        exact hK _ _ (by rintro d ⟨⟩; simp [evtSlot, hc]) (evG.refl _ _ _ _) (by intro h'; omega)
    · intro a W hG hk K hK
      have h51 : a.tmps.getD 51 undef = .bool (A && B && C && D) := hk 51 (List.mem_of_elem_eq_true (by kernel_rfl))
      clear hk
      simp only [Array.getD_eq_getD_getElem?] at h51 ⊢
      go_simp
      exact hK _ _ (by rintro d ⟨⟩; rfl) (evG.refl _ _ _ _) (by intro h'; omega)
    · intro a W hG hk K hK
      have h4 : a.tmps.getD 4 undef = .string sk := hk 4 (List.mem_of_elem_eq_true (by kernel_rfl))
      clear hk
      intro hg
      have hg : a.tmps.getD 52 undef = .bool (A && B && C && D) := hg
      refine ⟨fun hv => ?_, fun hv => ?_⟩
      · have hc : (A && B && C && D) = true := by rw [hg] at hv; injection hv
        simp only [Array.getD_eq_getD_getElem?] at h4 ⊢
        go_simp
        exact hK _ _ (by rintro d ⟨⟩; simp [evtSlot, ifB, hc]) (evG.refl _ _ _ _) (by intro h'; omega)
      · have hc : (A && B && C && D) = false := by
          cases hx : (A && B && C && D)
          · rfl
          · rw [hx] at hg; exact absurd hg hv
        exact hK _ _ (by rintro d ⟨⟩; simp [evtSlot, ifB, hc]) (evG.refl _ _ _ _) (by intro h'; omega)
    · intro a W hG hk K hK
      have h53 : a.tmps.getD 53 undef = ifB (A && B && C && D) (.string sk) := hk 53 (List.mem_of_elem_eq_true (by kernel_rfl))
      clear hk
      intro hg
      have hg : a.tmps.getD 52 undef = .bool (A && B && C && D) := hg
      refine ⟨fun hv => ?_, fun hv => ?_⟩
      · have hc : (A && B && C && D) = true := by rw [hg] at hv; injection hv
        rw [hc] at h53
        simp only [ifB, if_true] at h53
        simp only [Array.getD_eq_getD_getElem?] at h53 ⊢
        go_simp
        refine (HLT _).out.mono ?_
        rintro r w1 ⟨rfl, hb1⟩
        exact hK _ _ (by rintro d ⟨⟩; simp [evtSlot, ifB, hc]) (evG.of_below hb1) (by intro h'; omega)
      · have hc : (A && B && C && D) = false := by
          cases hx : (A && B && C && D)
          · rfl
          · rw [hx] at hg; exact absurd hg hv
        exact hK _ _ (by rintro d ⟨⟩; simp [evtSlot, ifB, hc]) (evG.refl _ _ _ _) (by intro h'; omega)
    · intro a W hG hk K hK
      have h52 : a.tmps.getD 52 undef = .bool (A && B && C && D) := hk 52 (List.mem_of_elem_eq_true (by kernel_rfl))
      have h54 : a.tmps.getD 54 undef = ifB (A && B && C && D) (.bool L) := hk 54 (List.mem_of_elem_eq_true (by kernel_rfl))
      clear hk
      simp only [Array.getD_eq_getD_getElem?] at h52 h54 ⊢
      cases hc : (A && B && C && D)
      · rw [hc] at h52 h54
        simp only [ifB] at h54
        go_simp
        exact hK _ _ (by rintro d ⟨⟩; simp [evtSlot, hc]) (evG.refl _ _ _ _) (by intro h'; omega)
      · rw [hc] at h52 h54
        simp only [ifB] at h54
        go_simp
        exact hK _ _ (by rintro d ⟨⟩; simp [evtSlot, hc]) (evG.refl _ _ _ _) (by intro h'; omega)
    · intro a W hG hk K hK
      have h55 : a.tmps.getD 55 undef = .bool (A && B && C && D && L) := hk 55 (List.mem_of_elem_eq_true (by kernel_rfl))
      clear hk
      simp only [Array.getD_eq_getD_getElem?] at h55 ⊢
      go_simp
      exact hK _ _ (by rintro d ⟨⟩; rfl) (evG.refl _ _ _ _) (by intro h'; omega)
    · intro a W hG hk K hK
      have h14 : a.tmps.getD 14 undef = .pointer (some ⟨w4.heap.size, 0, none⟩) := hk 14 (List.mem_of_elem_eq_true (by kernel_rfl))
      clear hk
      intro hg
      have hg : a.tmps.getD 56 undef = .bool (A && B && C && D && L) := hg
      refine ⟨fun hv => ?_, fun hv => ?_⟩
      · have hc : (A && B && C && D && L) = true := by rw [hg] at hv; injection hv
        have hc0 : W.cell? ⟨w4.heap.size, 0, none⟩ = some (.string sk) := hG.1.cell c0 hne
        have hc1 : W.cell? ⟨w4.heap.size, 1, none⟩ = some (.int .i64 t) := hG.1.cell c1 hne
        have hc2 : W.cell? ⟨w4.heap.size, 2, none⟩ = some (.int .i64 v) := hG.1.cell c2 hne
        simp only [Array.getD_eq_getD_getElem?] at h14 ⊢
        go_simp
        exact hK _ _ (by rintro d ⟨⟩; simp [evtSlot, ifB, hc]) (evG.refl _ _ _ _) (by intro h'; omega)
      · have hc : (A && B && C && D && L) = false := by
          cases hx : (A && B && C && D && L)
          · rfl
          · rw [hx] at hg; exact absurd hg hv
        exact hK _ _ (by rintro d ⟨⟩; simp [evtSlot, ifB, hc]) (evG.refl _ _ _ _) (by intro h'; omega)
    · intro a W hG hk K hK
      have h57 : a.tmps.getD 57 undef = ifB (A && B && C && D && L) (.agg #[.string sk, .int .i64 t, .int .i64 v]) := hk 57 (List.mem_of_elem_eq_true (by kernel_rfl))
      clear hk
      intro hg
      have hg : a.tmps.getD 56 undef = .bool (A && B && C && D && L) := hg
      refine ⟨fun hv => ?_, fun hv => ?_⟩
      · have hc : (A && B && C && D && L) = true := by rw [hg] at hv; injection hv
        rw [hc] at h57
        simp only [ifB, if_true] at h57
        simp only [Array.getD_eq_getD_getElem?] at h57 ⊢
        go_simp
        refine (HEV _).out.mono ?_
        rintro r w1 ⟨rfl, hb1⟩
        exact hK _ _ (by rintro d ⟨⟩; simp [evtSlot, ifB, hc]) (evG.of_below hb1) (by intro h'; omega)
      · have hc : (A && B && C && D && L) = false := by
          cases hx : (A && B && C && D && L)
          · rfl
          · rw [hx] at hg; exact absurd hg hv
        exact hK _ _ (by rintro d ⟨⟩; simp [evtSlot, ifB, hc]) (evG.refl _ _ _ _) (by intro h'; omega)
    · intro a W hG hk K hK
      have h56 : a.tmps.getD 56 undef = .bool (A && B && C && D && L) := hk 56 (List.mem_of_elem_eq_true (by kernel_rfl))
      have h58 : a.tmps.getD 58 undef = ifB (A && B && C && D && L) (.bool E) := hk 58 (List.mem_of_elem_eq_true (by kernel_rfl))
      clear hk
      simp only [Array.getD_eq_getD_getElem?] at h56 h58 ⊢
      cases hc : (A && B && C && D && L)
      · rw [hc] at h56 h58
        simp only [ifB] at h58
        go_simp
        exact hK _ _ (by rintro d ⟨⟩; simp [evtSlot, hc]) (evG.refl _ _ _ _) (by intro h'; omega)
      · rw [hc] at h56 h58
        simp only [ifB] at h58
        go_simp
        exact hK _ _ (by rintro d ⟨⟩; simp [evtSlot, hc]) (evG.refl _ _ _ _) (by intro h'; omega)
    · intro a W hG hk K hK
      have h2 : a.tmps.getD 2 undef = .pointer (some ⟨w.heap.size, 0, none⟩) := hk 2 (List.mem_of_elem_eq_true (by kernel_rfl))
      have h41 : a.tmps.getD 41 undef = (.agg #[.string sk, .int .i64 t, .int .i64 v]) := hk 41 (List.mem_of_elem_eq_true (by kernel_rfl))
      clear hk
      simp only [Array.getD_eq_getD_getElem?] at h2 h41 ⊢
      obtain ⟨x0, x1, x2, hblk⟩ : ∃ x0 x1 x2, W.heap[w.heap.size]? = some (.cells #[x0, x1, x2] 82 (0, 0)) := hG.2.2 hbk
      have d0 : W.cell? ⟨w.heap.size, 0, none⟩ = some x0 := by rw [Lib.cell_of_heap hblk]; rfl
      have u0 : W.frozen? ⟨w.heap.size, 0, none⟩ = false := by simp [World.frozen?, hblk]
      have d1 : W.cell? ⟨w.heap.size, 1, none⟩ = some x1 := by rw [Lib.cell_of_heap hblk]; rfl
      have u1 : W.frozen? ⟨w.heap.size, 1, none⟩ = false := by simp [World.frozen?, hblk]
      have d2 : W.cell? ⟨w.heap.size, 2, none⟩ = some x2 := by rw [Lib.cell_of_heap hblk]; rfl
      have u2 : W.frozen? ⟨w.heap.size, 2, none⟩ = false := by simp [World.frozen?, hblk]
      go_simp
      have hst := store3 W w.heap.size x0 x1 x2 (.string sk) (.int .i64 t) (.int .i64 v) _ hblk
      exact hK undef _ (by rintro d ⟨⟩) ⟨hst.2, fun _ => hst.1, fun _ => ⟨_, _, _, hst.1⟩⟩ (fun _ => hst.1)
  · intro a W hG hd hs hold hnew hpsi
    have hfin := hpsi 19 (by omega) rfl
    obtain rfl := frame_puts [(41, (.agg #[.string sk, .int .i64 t, .int .i64 v])), (42, .bool A), (43, .bool A), (44, ifB A (.bool B)), (45, .bool (A && B)), (46, .bool (A && B)), (47, ifB (A && B) (.bool C)), (48, .bool (A && B && C)), (49, .bool (A && B && C)), (50, ifB (A && B && C) (.bool D)), (51, .bool (A && B && C && D)), (52, .bool (A && B && C && D)), (53, ifB (A && B && C && D) (.string sk)), (54, ifB (A && B && C && D) (.bool L)), (55, .bool (A && B && C && D && L)), (56, .bool (A && B && C && D && L)), (57, ifB (A && B && C && D && L) (.agg #[.string sk, .int .i64 t, .int .i64 v])), (58, ifB (A && B && C && D && L) (.bool E)), (59, .bool (A && B && C && D && L && E))] hd hs hold (by kernel_rfl) ⟨hnew 41 0 (by kernel_rfl), hnew 42 1 (by kernel_rfl), hnew 43 2 (by kernel_rfl), hnew 44 3 (by kernel_rfl), hnew 45 4 (by kernel_rfl), hnew 46 5 (by kernel_rfl), hnew 47 6 (by kernel_rfl), hnew 48 7 (by kernel_rfl), hnew 49 8 (by kernel_rfl), hnew 50 9 (by kernel_rfl), hnew 51 10 (by kernel_rfl), hnew 52 11 (by kernel_rfl), hnew 53 12 (by kernel_rfl), hnew 54 13 (by kernel_rfl), hnew 55 14 (by kernel_rfl), hnew 56 15 (by kernel_rfl), hnew 57 16 (by kernel_rfl), hnew 58 17 (by kernel_rfl), hnew 59 18 (by kernel_rfl), trivial⟩
    have HF := Lib.hid hfin
    clear hold hnew hd hs hpsi hfin c0 c1 c2
    simp only [puts, Act.put, List.setIfInBounds_toArray, List.set_cons_succ, List.set_cons_zero]
    show wpList _ _ _ [_] _ _
    go_wp2_with fail
    obtain ⟨fs, hu⟩ := ev_struct
    refine bodyPost_ret (results_cell_tmp_row rfl _ _ w.heap.size _ _ (0, 0) (.struct fs) rfl HF.out hu rfl ev_info) rfl ?_
    have hW0b : Below w.heap.size w W0 := by rw [HW0.out]; exact hb.alloc (by omega) _
    have hfinal : Below w.heap.size w W := hW0b.trans ⟨hG.1.os, hG.1.tape, hG.1.output, hG.1.size, fun i hi => hG.1.block i (Nat.lt_of_lt_of_le hi hW0b.size) (by intro h'; have := Option.some.inj h'; omega)⟩
    have hkw : WfS sk := by unfold WfS; omega
    refine ⟨⟨sk, t, v⟩, A && B && C && D && L && E, rfl, ⟨hkw, ht, hv⟩, hfinal, ?_⟩
    obtain ⟨⟨q1, q2, q3⟩, q4, q5, q6⟩ := HE.out
    exact ev_decide2 s sk sr sa sv t v A B C D L E q1 q2 q3 q4 q5 q6 HCD.out.1 HCD.out.2 HLE.out.1 HLE.out.2 hkw
end Go.Proofs.YtljbclkbmjjmdaaGreatDoor
