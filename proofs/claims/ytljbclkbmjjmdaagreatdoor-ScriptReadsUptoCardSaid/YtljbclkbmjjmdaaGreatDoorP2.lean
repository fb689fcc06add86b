/- The walk of an event that is read. -/
import Derived.Test.YtljbclkbmjjmdaaGreatDoorP1
import Derived.Test.YtljbclkbmjjmdaaGreatDoorQE
import Derived.Test.YtljbclkbmjjmdaaGreatDoorRg
import Derived.Test.YtljbclkbmjjmdaaGreatDoorS6
import Derived.Laws.OwnMore
import Derived.Laws.ResultCell
import Derived.Deep.Heap
namespace Go.Proofs.YtljbclkbmjjmdaaGreatDoor
open Go.RowKit Go.Shelf
def ifB (b : Bool) (x : Value) : Value := if b = true then x else undef
def evtSlot (sk : ByteArray) (t v : Int) (A B C D L E : Bool) (g14 r : Nat) (x : Tmp) (_ : World) (y : Value) : Prop :=
  match x with
  | 2 => y = .pointer (some ⟨r, 0, none⟩)
  | 4 => y = .string sk
  | 6 => y = .bool A
  | 9 => y = .bool B
  | 11 => y = .bool C
  | 13 => y = .bool D
  | 14 => y = .pointer (some ⟨g14, 0, none⟩)
  | 41 => y = (.agg #[.string sk, .int .i64 t, .int .i64 v])
  | 42 => y = .bool A
  | 43 => y = .bool A
  | 44 => y = ifB A (.bool B)
  | 45 => y = .bool (A && B)
  | 46 => y = .bool (A && B)
  | 47 => y = ifB (A && B) (.bool C)
  | 48 => y = .bool (A && B && C)
  | 49 => y = .bool (A && B && C)
  | 50 => y = ifB (A && B && C) (.bool D)
  | 51 => y = .bool (A && B && C && D)
  | 52 => y = .bool (A && B && C && D)
  | 53 => y = ifB (A && B && C && D) (.string sk)
  | 54 => y = ifB (A && B && C && D) (.bool L)
  | 55 => y = .bool (A && B && C && D && L)
  | 56 => y = .bool (A && B && C && D && L)
  | 57 => y = ifB (A && B && C && D && L) (.agg #[.string sk, .int .i64 t, .int .i64 v])
  | 58 => y = ifB (A && B && C && D && L) (.bool E)
  | 59 => y = .bool (A && B && C && D && L && E)
  | _ => True

theorem cut_calls (s : ByteArray) (c : UInt8) (hs : s.size < 4294967281) (w : World) (h : Env w) : Calls Tryz.prog 13 #[.string s, .string (ByteArray.mk #[c])] w fun e w' => e = .returned (.tuple #[.string ⟨(cut1 c s.data.toList).1.toArray⟩, .string ⟨(cut1 c s.data.toList).2.1.toArray⟩, .bool (cut1 c s.data.toList).2.2]) ∧ Below w.heap.size w w' := by
  obtain ⟨m, hm⟩ := h.len
  refine (Tryz.strings_Cut s (ByteArray.mk #[c]) m w hs hm).mono ?_
  rintro e w' ⟨rfl, n, rfl⟩
  rw [show (ByteArray.mk #[c]).data.toList = [c] from rfl, cut_one]
  exact ⟨rfl, below_drewN (Below.refl _ _) _⟩
/-- A block of three cells, none frozen. -/
def Blk3 (T : TypeId) (r : Nat) (W : World) : Prop := ∃ x0 x1 x2, W.heap[r]? = some (.cells #[x0, x1, x2] T (0, 0))
/-- All but block r stays; what block r holds in the end, it keeps. -/
def evG (r : Nat) (T : TypeId) (fin : Obj) (a b : World) : Prop := a.grownBy b (some r) ∧ (a.heap[r]? = some fin → b.heap[r]? = some fin) ∧ (Blk3 T r a → Blk3 T r b)
theorem evG.refl (r : Nat) (T : TypeId) (fin : Obj) (a : World) : evG r T fin a a := ⟨⟨rfl, rfl, rfl, Nat.le_refl _, fun _ _ _ => rfl⟩, fun h => h, fun h => h⟩
theorem evG.trans {r : Nat} {T : TypeId} {fin : Obj} {a b c : World} (h : evG r T fin a b) (k : evG r T fin b c) : evG r T fin a c :=
  ⟨⟨k.1.os.trans h.1.os, k.1.tape.trans h.1.tape, k.1.output.trans h.1.output, Nat.le_trans h.1.size k.1.size, fun i hi hne => (k.1.block i (Nat.lt_of_lt_of_le hi h.1.size) hne).trans (h.1.block i hi hne)⟩, fun e => k.2.1 (h.2.1 e), fun e => k.2.2 (h.2.2 e)⟩
theorem blk3_below {T : TypeId} {r : Nat} {a b : World} (h : Below a.heap.size a b) (e : Blk3 T r a) : Blk3 T r b := by
  obtain ⟨x0, x1, x2, e⟩ := e
  exact ⟨x0, x1, x2, (h.block r (Array.getElem?_eq_some_iff.1 e).1).trans e⟩
theorem evG.of_below {r : Nat} {T : TypeId} {fin : Obj} {a b : World} (h : Below a.heap.size a b) : evG r T fin a b :=
  ⟨⟨h.os, h.tape, h.output, h.size, fun i hi _ => h.block i hi⟩, fun e => (h.block r (Array.getElem?_eq_some_iff.1 e).1).trans e, blk3_below h⟩
theorem store3 (W : World) (r : Nat) (x0 x1 x2 y0 y1 y2 : Value) (T : TypeId) (h : W.heap[r]? = some (.cells #[x0, x1, x2] T (0, 0))) :
    (((W.setCell ⟨r, 0, none⟩ y0).setCell ⟨r, 1, none⟩ y1).setCell ⟨r, 2, none⟩ y2).heap[r]? = some (.cells #[y0, y1, y2] T (0, 0)) ∧ W.grownBy (((W.setCell ⟨r, 0, none⟩ y0).setCell ⟨r, 1, none⟩ y1).setCell ⟨r, 2, none⟩ y2) (some r) := by
  have h0 := heap_setCell_same W r 0 _ T y0 h
  have h1 := heap_setCell_same _ r 1 _ T y1 h0
  have h2 := heap_setCell_same _ r 2 _ T y2 h1
  refine ⟨by simpa using h2, rfl, rfl, rfl, by simp, fun k _ hne => ?_⟩
  have hk : k ≠ r := fun e => hne (by rw [e])
  rw [Deep.blk_setCell_other _ _ _ _ hk, Deep.blk_setCell_other _ _ _ _ hk, Deep.blk_setCell_other _ _ _ _ hk]
theorem ev_info : (Tryz.prog.info? 82).map (·.size) = some 3 := by kernel_rfl
theorem ev_struct : ∃ fs, Tryz.prog.underlying 82 = some (.struct fs) := by
  have h : (match Tryz.prog.underlying 82 with | some (.struct _) => true | _ => false) = true := by kernel_rfl
  split at h
  · rename_i fs hu; exact ⟨fs, hu⟩
  · cases h
theorem results_cell_tmp_row {P : Program} {fn : Func} {p u : Tmp} {ty : TypeId} (h : fn.results = #[.cell p ty, .tmp u]) (tmps : Array Value) (w : World) (g : Nat) (t : TypeId) (cs : Array Value) (fr : Nat × Nat) (d : TypeDesc)
    (hp : tmps.getD p undef = .pointer (some ⟨g, 0, none⟩)) (hg : w.heap[g]? = some (.cells cs t fr))
    (hu : P.underlying ty = some d) (hd : (match d with | .struct _ | .array _ _ => true | _ => false) = true) (hi : (P.info? ty).map (·.size) = some cs.size) :
    (results fn tmps).run P w = .ok (.tuple #[.agg cs, tmps.getD u undef]) w := by
  have hp' : tmps[p]?.getD undef = .pointer (some ⟨g, 0, none⟩) := by simpa using hp
  simp [results, h, hp', asAddr, run_loadVar_row w g t ty cs fr d hg hu hd hi]
def EvPost (s : ByteArray) (w : World) (e : Ending) (w' : World) : Prop := ∃ x b, e = .returned (.tuple #[.agg #[.string x.key, .int .i64 x.at_, .int .i64 x.val], .bool b]) ∧ x.wf ∧ Below w.heap.size w w' ∧ ((b = true ∧ IsEv s x) ∨ (b = false ∧ ∀ y, ¬ IsEv s y))
set_option maxHeartbeats 1000000 in
set_option maxRecDepth 100000 in
theorem event_calls (s : ByteArray) (hl : s.size < 4294967281) (w : World) (h : Env w) : Calls Tryz.prog 46 #[.string s] w (EvPost s w) := by
  obtain ⟨sk, hsk⟩ : ∃ x, x = ByteArray.mk (cut1 64 s.data.toList).1.toArray := ⟨_, rfl⟩
  obtain ⟨sr, hsr⟩ : ∃ x, x = ByteArray.mk (cut1 64 s.data.toList).2.1.toArray := ⟨_, rfl⟩
  obtain ⟨A, hA⟩ : ∃ x, x = (cut1 64 s.data.toList).2.2 := ⟨_, rfl⟩
  obtain ⟨sa, hsa⟩ : ∃ x, x = ByteArray.mk (cut1 58 sr.data.toList).1.toArray := ⟨_, rfl⟩
  obtain ⟨sv, hsv⟩ : ∃ x, x = ByteArray.mk (cut1 58 sr.data.toList).2.1.toArray := ⟨_, rfl⟩
  obtain ⟨B, hB⟩ : ∃ x, x = (cut1 58 sr.data.toList).2.2 := ⟨_, rfl⟩
  have hlr : sr.size ≤ s.size := by rw [hsr, mk_size]; exact (cut1_len 64 _).2
  have hlk : sk.size ≤ s.size := by rw [hsk, mk_size]; exact (cut1_len 64 _).1
  have hla : sa.size ≤ s.size := by rw [hsa, mk_size]; exact Nat.le_trans (cut1_len 58 _).1 hlr
  have hlv : sv.size ≤ s.size := by rw [hsv, mk_size]; exact Nat.le_trans (cut1_len 58 _).2 hlr
  have h1 := fun W (hb : Below w.heap.size w W) => cut_calls s 64 hl W (h.mono hb)
  have h2 := fun W (hb : Below w.heap.size w W) => cut_calls sr 58 (by omega) W (h.mono hb)
  rw [← hsk, ← hsr, ← hA] at h1
  rw [← hsa, ← hsv, ← hB] at h2
  have H1 := fun W (hb : Below w.heap.size w W) => Lib.hid (h1 W hb)
  have H2 := fun W (hb : Below w.heap.size w W) => Lib.hid (h2 W hb)
  have H3 := fun W (hb : Below w.heap.size w W) => Lib.hid (whole_calls sa (by omega) W (h.mono hb))
  have H4 := fun W (hb : Below w.heap.size w W) => Lib.hid (whole_calls sv (by omega) W (h.mono hb))
  have HE := Lib.hid (show (sk = ByteArray.mk (cut1 64 s.data.toList).1.toArray ∧ sr = ByteArray.mk (cut1 64 s.data.toList).2.1.toArray ∧ A = (cut1 64 s.data.toList).2.2) ∧ (sa = ByteArray.mk (cut1 58 sr.data.toList).1.toArray ∧ sv = ByteArray.mk (cut1 58 sr.data.toList).2.1.toArray ∧ B = (cut1 58 sr.data.toList).2.2) from ⟨⟨hsk, hsr, hA⟩, hsa, hsv, hB⟩)
  clear h1 h2 hsk hsr hA hsa hsv hB
  go_enter Tryz.func46, Tryz.ntmps46
  go_wp2_with (go_at_call 13; first | ((with_reducible refine (H1 _ (by (repeat (first | exact Below.refl _ _ | assumption | refine ext_alloc ?_ _ | refine below_drewN ?_ _ | refine ext_drew ?_ | (refine below_tr ?_ (by assumption)))))).out.mono ?_); rintro r w1 ⟨rfl, hb1⟩) | ((with_reducible refine (H2 _ (by (repeat (first | exact Below.refl _ _ | assumption | refine ext_alloc ?_ _ | refine below_drewN ?_ _ | refine ext_drew ?_ | (refine below_tr ?_ (by assumption)))))).out.mono ?_); rintro r w2 ⟨rfl, hb2⟩))
  refine (H3 w2 (by (repeat (first | exact Below.refl _ _ | assumption | refine ext_alloc ?_ _ | refine below_drewN ?_ _ | refine ext_drew ?_ | (refine below_tr ?_ (by assumption)))))).out.mono ?_
  rintro r w3 ⟨t, C, rfl, ht, hb3, hC⟩
  go_wp2_with fail
  refine (H4 w3 (by (repeat (first | exact Below.refl _ _ | assumption | refine ext_alloc ?_ _ | refine below_drewN ?_ _ | refine ext_drew ?_ | (refine below_tr ?_ (by assumption)))))).out.mono ?_
  rintro r w4 ⟨v, D, rfl, hv, hb4, hD⟩
  have hb : Below w.heap.size w w4 := by (repeat (first | exact Below.refl _ _ | assumption | refine ext_alloc ?_ _ | refine below_drewN ?_ _ | refine ext_drew ?_ | (refine below_tr ?_ (by assumption))))
  obtain ⟨W0, hW0⟩ : ∃ W0, W0 = w4.alloc (.cells #[.string sk, .int .i64 t, .int .i64 v] 82) := ⟨_, rfl⟩
  have c0 : W0.cell? ⟨w4.heap.size, 0, none⟩ = some (.string sk) := by rw [hW0]; exact box_cell _ _ _ _ _ rfl
  have c1 : W0.cell? ⟨w4.heap.size, 1, none⟩ = some (.int .i64 t) := by rw [hW0]; exact box_cell _ _ _ _ _ rfl
  have c2 : W0.cell? ⟨w4.heap.size, 2, none⟩ = some (.int .i64 v) := by rw [hW0]; exact box_cell _ _ _ _ _ rfl
  have hz : w4.heap.size < W0.heap.size := by rw [hW0]; simp
  have hsz4 := hb.size
  have hne : some (⟨w4.heap.size, 0, none⟩ : Addr).block ≠ some w.heap.size := by
    intro h'
    have h' := Option.some.inj h'
    have q1 := hb1.size
    have q2 := hb2.size
    have q3 := hb3.size
    have q4 := hb4.size
    simp at q1
    simp at h'
    omega
  have HLT := fun W => Lib.hid ((letters_impl sk (by unfold WfS; omega) W).mono (R' := fun r w' => r = .returned (.bool (lettersB sk)) ∧ Below W.heap.size W w') fun _ _ ⟨he, hw⟩ => ⟨he, hw ▸ Below.refl _ _⟩)
  obtain ⟨L, hL⟩ : ∃ L, L = lettersB sk := ⟨_, rfl⟩
  have HEV := fun W => Lib.hid (event_impl ⟨sk, t, v⟩ W)
  obtain ⟨E, hE⟩ : ∃ E, E = eventB ⟨sk, t, v⟩ := ⟨_, rfl⟩
  rw [← hL] at HLT
  rw [← hE] at HEV
  have HLE := Lib.hid (And.intro hL hE)
  have hbk : Blk3 82 w.heap.size W0 := by
    rw [hW0]
    exact blk3_below ((Below.refl _ w4).alloc (Nat.le_refl _) _) (blk3_below hb4 (blk3_below hb3 (blk3_below hb2 (blk3_below hb1 ⟨_, _, _, heap_alloc_new w _⟩))))
  have HCD := Lib.hid (And.intro hC hD)
  have HW0 := Lib.hid hW0
  clear hL hE hC hD hW0 H1 H2 H3 H4
  go_wp2_with fail
  rw [← HW0.out]
  refine wp_region_guard (by kernel_rfl) 20 [2, 4, 6, 9, 11, 13, 14] [none, none, none, some (43, true), none, none, some (46, true), none, none, some (49, true), none, none, some (52, true), some (52, true), none, none, some (56, true), some (56, true), none, none] (by kernel_rfl) (evG w.heap.size 82 (.cells #[.string sk, .int .i64 t, .int .i64 v] 82)) (fun a b c h k => evG.trans h k) (evG.of_below (ext_drew (Below.refl _ _))) (evtSlot sk t v A B C D L E w4.heap.size w.heap.size) (fun t W W' v h hb => h) (fun i W => i = 19 → W.heap[w.heap.size]? = some (.cells #[.string sk, .int .i64 t, .int .i64 v] 82)) (fun i W W' h hg hi => hg.2.1 (h hi)) ?_ ?_ ?_
  · intro x hx W hW
    simp only [List.mem_cons, List.mem_nil_iff, or_false] at hx
    rcases hx with rfl | rfl | rfl | rfl | rfl | rfl | rfl <;> exact rfl
  · refine ⟨?_, ?_, ?_, ?_, ?_, ?_, ?_, ?_, ?_, ?_, ?_, ?_, ?_, ?_, ?_, ?_, ?_, ?_, ?_, ?_, trivial⟩
    · intro a W hG hk K hK
      have h14 : a.tmps.getD 14 undef = .pointer (some ⟨w4.heap.size, 0, none⟩) := hk 14 (List.mem_of_elem_eq_true (by kernel_rfl))
      clear hk
      have hc0 : W.cell? ⟨w4.heap.size, 0, none⟩ = some (.string sk) := hG.1.cell c0 hne
      have hc1 : W.cell? ⟨w4.heap.size, 1, none⟩ = some (.int .i64 t) := hG.1.cell c1 hne
      have hc2 : W.cell? ⟨w4.heap.size, 2, none⟩ = some (.int .i64 v) := hG.1.cell c2 hne
      simp only [Array.getD_eq_getD_getElem?] at h14 ⊢
      go_simp
      exact hK _ _ (by rintro d ⟨⟩; rfl) (evG.refl _ _ _ _) (by intro h'; omega)
    · intro a W hG hk K hK
      have h6 : a.tmps.getD 6 undef = .bool A := hk 6 (List.mem_of_elem_eq_true (by kernel_rfl))
      clear hk
      simp only [Array.getD_eq_getD_getElem?] at h6 ⊢
      go_simp
      exact hK _ _ (by rintro d ⟨⟩; rfl) (evG.refl _ _ _ _) (by intro h'; omega)
    · intro a W hG hk K hK
      have h42 : a.tmps.getD 42 undef = .bool A := hk 42 (List.mem_of_elem_eq_true (by kernel_rfl))
      clear hk
      simp only [Array.getD_eq_getD_getElem?] at h42 ⊢
      go_simp
      exact hK _ _ (by rintro d ⟨⟩; rfl) (evG.refl _ _ _ _) (by intro h'; omega)
    · intro a W hG hk K hK
      have h9 : a.tmps.getD 9 undef = .bool B := hk 9 (List.mem_of_elem_eq_true (by kernel_rfl))
      clear hk
      intro hg
      have hg : a.tmps.getD 43 undef = .bool A := hg
      refine ⟨fun hv => ?_, fun hv => ?_⟩
      · have hc : A = true := by rw [hg] at hv; injection hv
        simp only [Array.getD_eq_getD_getElem?] at h9 ⊢
        go_simp
        exact hK _ _ (by rintro d ⟨⟩; simp [evtSlot, ifB, hc]) (evG.refl _ _ _ _) (by intro h'; omega)
      · have hc : A = false := by
          cases hx : A
          · rfl
          · rw [hx] at hg; exact absurd hg hv
        exact hK _ _ (by rintro d ⟨⟩; simp [evtSlot, ifB, hc]) (evG.refl _ _ _ _) (by intro h'; omega)
    · intro a W hG hk K hK
      have h43 : a.tmps.getD 43 undef = .bool A := hk 43 (List.mem_of_elem_eq_true (by kernel_rfl))
      have h44 : a.tmps.getD 44 undef = ifB A (.bool B) := hk 44 (List.mem_of_elem_eq_true (by kernel_rfl))
      clear hk
      simp only [Array.getD_eq_getD_getElem?] at h43 h44 ⊢
      cases hc : A
      · rw [hc] at h43 h44
        simp only [ifB] at h44
        go_simp
        exact hK _ _ (by rintro d ⟨⟩; simp [evtSlot, hc]) (evG.refl _ _ _ _) (by intro h'; omega)
      · rw [hc] at h43 h44
        simp only [ifB] at h44
        go_simp
        exact hK _ _ (by rintro d ⟨⟩; simp [evtSlot, hc]) (evG.refl _ _ _ _) (by intro h'; omega)
    · intro a W hG hk K hK
      have h45 : a.tmps.getD 45 undef = .bool (A && B) := hk 45 (List.mem_of_elem_eq_true (by kernel_rfl))
      clear hk
      simp only [Array.getD_eq_getD_getElem?] at h45 ⊢
      go_simp
      exact hK _ _ (by rintro d ⟨⟩; rfl) (evG.refl _ _ _ _) (by intro h'; omega)
    · intro a W hG hk K hK
      have h11 : a.tmps.getD 11 undef = .bool C := hk 11 (List.mem_of_elem_eq_true (by kernel_rfl))
      clear hk
      intro hg
      have hg : a.tmps.getD 46 undef = .bool (A && B) := hg
      refine ⟨fun hv => ?_, fun hv => ?_⟩
      · have hc : (A && B) = true := by rw [hg] at hv; injection hv
        simp only [Array.getD_eq_getD_getElem?] at h11 ⊢
        go_simp
        exact hK _ _ (by rintro d ⟨⟩; simp [evtSlot, ifB, hc]) (evG.refl _ _ _ _) (by intro h'; omega)
      · have hc : (A && B) = false := by
          cases hx : (A && B)
          · rfl
          · rw [hx] at hg; exact absurd hg hv
        exact hK _ _ (by rintro d ⟨⟩; simp [evtSlot, ifB, hc]) (evG.refl _ _ _ _) (by intro h'; omega)
    · intro a W hG hk K hK
      have h46 : a.tmps.getD 46 undef = .bool (A && B) := hk 46 (List.mem_of_elem_eq_true (by kernel_rfl))
      have h47 : a.tmps.getD 47 undef = ifB (A && B) (.bool C) := hk 47 (List.mem_of_elem_eq_true (by kernel_rfl))
      clear hk
      simp only [Array.getD_eq_getD_getElem?] at h46 h47 ⊢
      cases hc : (A && B)
      · rw [hc] at h46 h47
        simp only [ifB] at h47
        go_simp
        exact hK _ _ (by rintro d ⟨⟩; simp [evtSlot, hc]) (evG.refl _ _ _ _) (by intro h'; omega)
      · rw [hc] at h46 h47
        simp only [ifB] at h47
        go_simp
        exact hK _ _ (by rintro d ⟨⟩; simp [evtSlot, hc]) (evG.refl _ _ _ _) (by intro h'; omega)
    · intro a W hG hk K hK
      have h48 : a.tmps.getD 48 undef = .bool (A && B && C) := hk 48 (List.mem_of_elem_eq_true (by kernel_rfl))
      clear hk
      simp only [Array.getD_eq_getD_getElem?] at h48 ⊢
      go_simp
      exact hK _ _ (by rintro d ⟨⟩; rfl) (evG.refl _ _ _ _) (by intro h'; omega)
    · intro a W hG hk K hK
      have h13 : a.tmps.getD 13 undef = .bool D := hk 13 (List.mem_of_elem_eq_true (by kernel_rfl))
      clear hk
      intro hg
      have hg : a.tmps.getD 49 undef = .bool (A && B && C) := hg
      refine ⟨fun hv => ?_, fun hv => ?_⟩
      · have hc : (A && B && C) = true := by rw [hg] at hv; injection hv
        simp only [Array.getD_eq_getD_getElem?] at h13 ⊢
        go_simp
        exact hK _ _ (by rintro d ⟨⟩; simp [evtSlot, ifB, hc]) (evG.refl _ _ _ _) (by intro h'; omega)
      · have hc : (A && B && C) = false := by
          cases hx : (A && B && C)
          · rfl
          · rw [hx] at hg; exact absurd hg hv
        exact hK _ _ (by rintro d ⟨⟩; simp [evtSlot, ifB, hc]) (evG.refl _ _ _ _) (by intro h'; omega)
    · intro a W hG hk K hK
      have h49 : a.tmps.getD 49 undef = .bool (A && B && C) := hk 49 (List.mem_of_elem_eq_true (by kernel_rfl))
      have h50 : a.tmps.getD 50 undef = ifB (A && B && C) (.bool D) := hk 50 (List.mem_of_elem_eq_true (by kernel_rfl))
      clear hk
      simp only [Array.getD_eq_getD_getElem?] at h49 h50 ⊢
      cases hc : (A && B && C)
      · rw [hc] at h49 h50
        simp only [ifB] at h50
        go_simp
        exact hK _ _ (by rintro d ⟨⟩; simp [evtSlot, hc]) (evG.refl _ _ _ _) (by intro h'; omega)
      · rw [hc] at h49 h50
        simp only [ifB] at h50
        go_simp
        exact hK _ _ (by rintro d ⟨⟩; simp [evtSlot, hc]) (evG.refl _ _ _ _) (by intro h'; omega)
    · intro a W hG hk K hK
      have h51 : a.tmps.getD 51 undef = .bool (A && B && C && D) := hk 51 (List.mem_of_elem_eq_true (by kernel_rfl))
      clear hk
      simp only [Array.getD_eq_getD_getElem?] at h51 ⊢
      go_simp
      exact hK _ _ (by rintro d ⟨⟩; rfl) (evG.refl _ _ _ _) (by intro h'; omega)
    · intro a W hG hk K hK
      have h4 : a.tmps.getD 4 undef = .string sk := hk 4 (List.mem_of_elem_eq_true (by kernel_rfl))
      clear hk
      intro hg
      have hg : a.tmps.getD 52 undef = .bool (A && B && C && D) := hg
      refine ⟨fun hv => ?_, fun hv => ?_⟩
      · have hc : (A && B && C && D) = true := by rw [hg] at hv; injection hv
        simp only [Array.getD_eq_getD_getElem?] at h4 ⊢
        go_simp
        exact hK _ _ (by rintro d ⟨⟩; simp [evtSlot, ifB, hc]) (evG.refl _ _ _ _) (by intro h'; omega)
      · have hc : (A && B && C && D) = false := by
          cases hx : (A && B && C && D)
          · rfl
          · rw [hx] at hg; exact absurd hg hv
        exact hK _ _ (by rintro d ⟨⟩; simp [evtSlot, ifB, hc]) (evG.refl _ _ _ _) (by intro h'; omega)
    · intro a W hG hk K hK
      have h53 : a.tmps.getD 53 undef = ifB (A && B && C && D) (.string sk) := hk 53 (List.mem_of_elem_eq_true (by kernel_rfl))
      clear hk
      intro hg
      have hg : a.tmps.getD 52 undef = .bool (A && B && C && D) := hg
      refine ⟨fun hv => ?_, fun hv => ?_⟩
      · have hc : (A && B && C && D) = true := by rw [hg] at hv; injection hv
        rw [hc] at h53
        simp only [ifB, if_true] at h53
        simp only [Array.getD_eq_getD_getElem?] at h53 ⊢
        go_simp
        refine (HLT _).out.mono ?_
        rintro r w1 ⟨rfl, hb1⟩
        exact hK _ _ (by rintro d ⟨⟩; simp [evtSlot, ifB, hc]) (evG.of_below hb1) (by intro h'; omega)
      · have hc : (A && B && C && D) = false := by
          cases hx : (A && B && C && D)
          · rfl
          · rw [hx] at hg; exact absurd hg hv
        exact hK _ _ (by rintro d ⟨⟩; simp [evtSlot, ifB, hc]) (evG.refl _ _ _ _) (by intro h'; omega)
    · intro a W hG hk K hK
      have h52 : a.tmps.getD 52 undef = .bool (A && B && C && D) := hk 52 (List.mem_of_elem_eq_true (by kernel_rfl))
      have h54 : a.tmps.getD 54 undef = ifB (A && B && C && D) (.bool L) := hk 54 (List.mem_of_elem_eq_true (by kernel_rfl))
      clear hk
      simp only [Array.getD_eq_getD_getElem?] at h52 h54 ⊢
      cases hc : (A && B && C && D)
      · rw [hc] at h52 h54
        simp only [ifB] at h54
        go_simp
        exact hK _ _ (by rintro d ⟨⟩; simp [evtSlot, hc]) (evG.refl _ _ _ _) (by intro h'; omega)
      · rw [hc] at h52 h54
        simp only [ifB] at h54
        go_simp
        exact hK _ _ (by rintro d ⟨⟩; simp [evtSlot, hc]) (evG.refl _ _ _ _) (by intro h'; omega)
    · intro a W hG hk K hK
      have h55 : a.tmps.getD 55 undef = .bool (A && B && C && D && L) := hk 55 (List.mem_of_elem_eq_true (by kernel_rfl))
      clear hk
      simp only [Array.getD_eq_getD_getElem?] at h55 ⊢
      go_simp
      exact hK _ _ (by rintro d ⟨⟩; rfl) (evG.refl _ _ _ _) (by intro h'; omega)
    · intro a W hG hk K hK
      have h14 : a.tmps.getD 14 undef = .pointer (some ⟨w4.heap.size, 0, none⟩) := hk 14 (List.mem_of_elem_eq_true (by kernel_rfl))
      clear hk
      intro hg
      have hg : a.tmps.getD 56 undef = .bool (A && B && C && D && L) := hg
      refine ⟨fun hv => ?_, fun hv => ?_⟩
      · have hc : (A && B && C && D && L) = true := by rw [hg] at hv; injection hv
        have hc0 : W.cell? ⟨w4.heap.size, 0, none⟩ = some (.string sk) := hG.1.cell c0 hne
        have hc1 : W.cell? ⟨w4.heap.size, 1, none⟩ = some (.int .i64 t) := hG.1.cell c1 hne
        have hc2 : W.cell? ⟨w4.heap.size, 2, none⟩ = some (.int .i64 v) := hG.1.cell c2 hne
        simp only [Array.getD_eq_getD_getElem?] at h14 ⊢
        go_simp
        exact hK _ _ (by rintro d ⟨⟩; simp [evtSlot, ifB, hc]) (evG.refl _ _ _ _) (by intro h'; omega)
      · have hc : (A && B && C && D && L) = false := by
          cases hx : (A && B && C && D && L)
          · rfl
          · rw [hx] at hg; exact absurd hg hv
        exact hK _ _ (by rintro d ⟨⟩; simp [evtSlot, ifB, hc]) (evG.refl _ _ _ _) (by intro h'; omega)
    · intro a W hG hk K hK
      have h57 : a.tmps.getD 57 undef = ifB (A && B && C && D && L) (.agg #[.string sk, .int .i64 t, .int .i64 v]) := hk 57 (List.mem_of_elem_eq_true (by kernel_rfl))
      clear hk
      intro hg
      have hg : a.tmps.getD 56 undef = .bool (A && B && C && D && L) := hg
      refine ⟨fun hv => ?_, fun hv => ?_⟩
      · have hc : (A && B && C && D && L) = true := by rw [hg] at hv; injection hv
        rw [hc] at h57
        simp only [ifB, if_true] at h57
        simp only [Array.getD_eq_getD_getElem?] at h57 ⊢
        go_simp
        refine (HEV _).out.mono ?_
        rintro r w1 ⟨rfl, hb1⟩
        exact hK _ _ (by rintro d ⟨⟩; simp [evtSlot, ifB, hc]) (evG.of_below hb1) (by intro h'; omega)
      · have hc : (A && B && C && D && L) = false := by
          cases hx : (A && B && C && D && L)
          · rfl
          · rw [hx] at hg; exact absurd hg hv
        exact hK _ _ (by rintro d ⟨⟩; simp [evtSlot, ifB, hc]) (evG.refl _ _ _ _) (by intro h'; omega)
    · intro a W hG hk K hK
      have h56 : a.tmps.getD 56 undef = .bool (A && B && C && D && L) := hk 56 (List.mem_of_elem_eq_true (by kernel_rfl))
      have h58 : a.tmps.getD 58 undef = ifB (A && B && C && D && L) (.bool E) := hk 58 (List.mem_of_elem_eq_true (by kernel_rfl))
      clear hk
      simp only [Array.getD_eq_getD_getElem?] at h56 h58 ⊢
      cases hc : (A && B && C && D && L)
      · rw [hc] at h56 h58
        simp only [ifB] at h58
        go_simp
        exact hK _ _ (by rintro d ⟨⟩; simp [evtSlot, hc]) (evG.refl _ _ _ _) (by intro h'; omega)
      · rw [hc] at h56 h58
        simp only [ifB] at h58
        go_simp
        exact hK _ _ (by rintro d ⟨⟩; simp [evtSlot, hc]) (evG.refl _ _ _ _) (by intro h'; omega)
    · intro a W hG hk K hK
      have h2 : a.tmps.getD 2 undef = .pointer (some ⟨w.heap.size, 0, none⟩) := hk 2 (List.mem_of_elem_eq_true (by kernel_rfl))
      have h41 : a.tmps.getD 41 undef = (.agg #[.string sk, .int .i64 t, .int .i64 v]) := hk 41 (List.mem_of_elem_eq_true (by kernel_rfl))
      clear hk
      simp only [Array.getD_eq_getD_getElem?] at h2 h41 ⊢
      obtain ⟨x0, x1, x2, hblk⟩ : ∃ x0 x1 x2, W.heap[w.heap.size]? = some (.cells #[x0, x1, x2] 82 (0, 0)) := hG.2.2 hbk
      have d0 : W.cell? ⟨w.heap.size, 0, none⟩ = some x0 := by rw [Lib.cell_of_heap hblk]; rfl
      have u0 : W.frozen? ⟨w.heap.size, 0, none⟩ = false := by simp [World.frozen?, hblk]
      have d1 : W.cell? ⟨w.heap.size, 1, none⟩ = some x1 := by rw [Lib.cell_of_heap hblk]; rfl
      have u1 : W.frozen? ⟨w.heap.size, 1, none⟩ = false := by simp [World.frozen?, hblk]
      have d2 : W.cell? ⟨w.heap.size, 2, none⟩ = some x2 := by rw [Lib.cell_of_heap hblk]; rfl
      have u2 : W.frozen? ⟨w.heap.size, 2, none⟩ = false := by simp [World.frozen?, hblk]
      go_simp
      have hst := store3 W w.heap.size x0 x1 x2 (.string sk) (.int .i64 t) (.int .i64 v) _ hblk
      exact hK undef _ (by rintro d ⟨⟩) ⟨hst.2, fun _ => hst.1, fun _ => ⟨_, _, _, hst.1⟩⟩ (fun _ => hst.1)
  · intro a W hG hd hs hold hnew hpsi
    have hfin := hpsi 19 (by omega) rfl
    obtain rfl := frame_puts [(41, (.agg #[.string sk, .int .i64 t, .int .i64 v])), (42, .bool A), (43, .bool A), (44, ifB A (.bool B)), (45, .bool (A && B)), (46, .bool (A && B)), (47, ifB (A && B) (.bool C)), (48, .bool (A && B && C)), (49, .bool (A && B && C)), (50, ifB (A && B && C) (.bool D)), (51, .bool (A && B && C && D)), (52, .bool (A && B && C && D)), (53, ifB (A && B && C && D) (.string sk)), (54, ifB (A && B && C && D) (.bool L)), (55, .bool (A && B && C && D && L)), (56, .bool (A && B && C && D && L)), (57, ifB (A && B && C && D && L) (.agg #[.string sk, .int .i64 t, .int .i64 v])), (58, ifB (A && B && C && D && L) (.bool E)), (59, .bool (A && B && C && D && L && E))] hd hs hold (by kernel_rfl) ⟨hnew 41 0 (by kernel_rfl), hnew 42 1 (by kernel_rfl), hnew 43 2 (by kernel_rfl), hnew 44 3 (by kernel_rfl), hnew 45 4 (by kernel_rfl), hnew 46 5 (by kernel_rfl), hnew 47 6 (by kernel_rfl), hnew 48 7 (by kernel_rfl), hnew 49 8 (by kernel_rfl), hnew 50 9 (by kernel_rfl), hnew 51 10 (by kernel_rfl), hnew 52 11 (by kernel_rfl), hnew 53 12 (by kernel_rfl), hnew 54 13 (by kernel_rfl), hnew 55 14 (by kernel_rfl), hnew 56 15 (by kernel_rfl), hnew 57 16 (by kernel_rfl), hnew 58 17 (by kernel_rfl), hnew 59 18 (by kernel_rfl), trivial⟩
    have HF := Lib.hid hfin
    clear hold hnew hd hs hpsi hfin c0 c1 c2
    simp only [puts, Act.put, List.setIfInBounds_toArray, List.set_cons_succ, List.set_cons_zero]
    show wpList _ _ _ [_] _ _
    go_wp2_with fail
    obtain ⟨fs, hu⟩ := ev_struct
    refine bodyPost_ret (results_cell_tmp_row rfl _ _ w.heap.size _ _ (0, 0) (.struct fs) rfl HF.out hu rfl ev_info) rfl ?_
    have hW0b : Below w.heap.size w W0 := by rw [HW0.out]; exact hb.alloc (by omega) _
    have hfinal : Below w.heap.size w W := hW0b.trans ⟨hG.1.os, hG.1.tape, hG.1.output, hG.1.size, fun i hi => hG.1.block i (Nat.lt_of_lt_of_le hi hW0b.size) (by intro h'; have := Option.some.inj h'; omega)⟩
    have hkw : WfS sk := by unfold WfS; omega
    refine ⟨⟨sk, t, v⟩, A && B && C && D && L && E, rfl, ⟨hkw, ht, hv⟩, hfinal, ?_⟩
    obtain ⟨⟨q1, q2, q3⟩, q4, q5, q6⟩ := HE.out
    exact ev_decide s sk sr sa sv t v A B C D L E q1 q2 q3 q4 q5 q6 HCD.out.1 HCD.out.2 HLE.out.1 HLE.out.2 hkw
end Go.Proofs.YtljbclkbmjjmdaaGreatDoor
