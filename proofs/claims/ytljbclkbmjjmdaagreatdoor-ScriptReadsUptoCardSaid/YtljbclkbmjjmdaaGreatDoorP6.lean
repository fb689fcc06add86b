/- The walk of the fold's reader. -/
import Derived.Test.YtljbclkbmjjmdaaGreatDoorP5
namespace Go.Proofs.YtljbclkbmjjmdaaGreatDoor
open Go.RowKit Go.Shelf
def nameB (i : Nat) : ByteArray := ⟨(foldL ((i : Int) + 1)).toArray⟩
def namesB : List ByteArray := [nameB 0, nameB 1, nameB 2, nameB 3, nameB 4]
def NamesIn (g : Nat) (W : World) : Prop := ∀ i, i < 5 → W.cell? ⟨g, i, none⟩ = some (.string (nameB i))
theorem NamesIn.mono {g : Nat} {W W' : World} (h : NamesIn g W) (hb : Below W.heap.size W W') : NamesIn g W' := fun i hi => cell_later2 (h i hi) hb
theorem names_all (w : World) : Calls Tryz.prog 56 #[] w fun e w' => ∃ g, e = .returned (.slice (some ⟨g, 0, none⟩) 5 5) ∧ Below w.heap.size w w' ∧ NamesIn g w' := by
  go_enter Tryz.func56, Tryz.ntmps56
  go_wp2
  go_ret
  refine ⟨_, rfl, (Below.refl _ _).alloc (Nat.le_refl _) _, fun i hi => ?_⟩
  rw [World.cell?_alloc_at _ _ _ _ rfl]
  match i, hi with
  | 0, _ => rfl
  | 1, _ => rfl
  | 2, _ => rfl
  | 3, _ => rfl
  | 4, _ => rfl
theorem names_getD (j : Nat) (h : j < 5) : namesB.getD j ByteArray.empty = nameB j := by
  match j, h with
  | 0, _ => rfl
  | 1, _ => rfl
  | 2, _ => rfl
  | 3, _ => rfl
  | 4, _ => rfl
theorem index_names (x : ByteArray) (g : Nat) (w : World) (h : NamesIn g w) : Calls Tryz.prog 103 #[.slice (some ⟨g, 0, none⟩) 5 5, .string x] w fun e w' => e = .returned (.int .i64 (Lib.idxOfS namesB x)) ∧ Below w.heap.size w w' := by
  refine (Tryz.slices_Index_string g 0 5 5 namesB x w (by decide) (by decide) (fun j hj => ?_)).mono ?_
  · rw [Nat.zero_add, names_getD j hj]
    exact h j hj
  · rintro e w' ⟨rfl, rfl⟩
    exact ⟨rfl, Below.refl _ _⟩
theorem nameB_eq {k : Nat} {x : ByteArray} (h : bytesL x = foldL ((k : Int) + 1)) : nameB k = x := ba_ext (by rw [show (nameB k).data.toList = foldL ((k : Int) + 1) by simp [nameB], ← h]; rfl)
theorem nameB_bytes {k : Nat} {x : ByteArray} (h : nameB k = x) : bytesL x = foldL ((k : Int) + 1) := by rw [← h]; simp [nameB, bytesL]
theorem fold_idx (x : ByteArray) : (∃ k : Nat, Lib.idxOfS namesB x = k ∧ k < 5 ∧ bytesL x = foldL ((k : Int) + 1)) ∨ (Lib.idxOfS namesB x = -1 ∧ ∀ k, foldB k = true → bytesL x ≠ foldL k) := by
  by_cases h : ∃ k : Nat, k < 5 ∧ nameB k = x
  · obtain ⟨k, hk, hx⟩ := h
    refine .inl ⟨k, ?_, hk, nameB_bytes hx⟩
    refine Lib.idxOfS_hit namesB 5 k x hk (by decide) ((names_getD k hk).trans hx) fun j hj e => ?_
    rw [names_getD j (by omega)] at e
    have := foldL_inj (a := (j : Int) + 1) (b := (k : Int) + 1) (by simp [foldB]; omega) (by simp [foldB]; omega) ((nameB_bytes e).symm.trans (nameB_bytes hx))
    omega
  · refine .inr ⟨Lib.idxOfS_miss namesB 5 x fun j hj e => h ⟨j, hj, by rw [← names_getD j hj]; exact e⟩, fun k hk e => ?_⟩
    simp only [foldB, decide_eq_true_eq] at hk
    obtain ⟨m, rfl⟩ : ∃ m : Nat, k = (m : Int) + 1 := ⟨(k - 1).toNat, by omega⟩
    exact h ⟨m, by omega, nameB_eq e⟩
def foldSlot (r b o c : Nat) (x : ByteArray) (i : Int) (t : Tmp) (W : World) (v : Value) : Prop :=
  match t with
  | 0 => v = .pointer (some ⟨r, 0, none⟩)
  | 1 => v = .slice (some ⟨b, o, none⟩) 1 c
  | 5 => v = .pointer (some ⟨r, 0, none⟩)
  | 6 => ∃ g, v = .slice (some ⟨g, 0, none⟩) 5 5 ∧ NamesIn g W
  | 7 => v = .slice (some ⟨b, o, none⟩) 1 c
  | 8 => v = .pointer (some ⟨b, o, none⟩)
  | 9 => v = .string x
  | 10 => v = .int .i64 i
  | 11 => v = .int .i64 (i + 1)
  | 12 => v = .pointer (some ⟨r, 0, none⟩)
  | 13 => v = .pointer (some ⟨r, 0, none⟩)
  | 14 => v = .pointer (some ⟨r, 3, none⟩)
  | _ => True
theorem foldSlot_mono (r b o c : Nat) (x : ByteArray) (i : Int) (t : Tmp) (W W' : World) (v : Value) (h : foldSlot r b o c x i t W v) (hb : Below W.heap.size W W') : foldSlot r b o c x i t W' v := by
  unfold foldSlot at h ⊢
  split at h <;> first | exact h | (obtain ⟨g, hv, hc⟩ := h; exact ⟨g, hv, hc.mono hb⟩)
set_option maxHeartbeats 1000000 in
set_option maxRecDepth 100000 in
theorem rd_fold (r : Nat) (j : Jb) (x : ByteArray) (v : Value) (w : World) (hs : Sl 1 rStr w v [x]) (hr : RdAt r j w) :
    Calls Tryz.prog 76 #[.pointer (some ⟨r, 0, none⟩), v] w (RdPost r 3 [bytesL x] j w) := by
  obtain ⟨A, c, rfl, hs, hc, hm⟩ := hs
  obtain ⟨b, o, y, rfl, hz, ⟨hy, hyw⟩, hcy⟩ := hs.one 0 (by simp)
  injection hy with hy
  subst hy
  simp only [List.getElem_cons_zero, Nat.add_zero, List.length_singleton] at hcy ⊢
  obtain ⟨i, hi⟩ : ∃ i, i = Lib.idxOfS namesB x := ⟨_, rfl⟩
  have HI := Lib.hid (show (∃ k : Nat, i = k ∧ k < 5 ∧ bytesL x = foldL ((k : Int) + 1)) ∨ (i = -1 ∧ ∀ k, foldB k = true → bytesL x ≠ foldL k) from hi ▸ fold_idx x)
  have hi1 : -1 ≤ i := by rcases HI.out with ⟨k, h, _⟩ | ⟨h, _⟩ <;> omega
  have hi2 : i < 5 := by rcases HI.out with ⟨k, h, _⟩ | ⟨h, _⟩ <;> omega
  have HN := fun W => Lib.hid (names_all W)
  have HX := fun g W (h : NamesIn g W) => Lib.hid (index_names x g W h)
  rw [← hi] at HX
  have HR := Lib.hid hr
  have hzr : r < w.heap.size := (Array.getElem?_eq_some_iff.1 hr).1
  clear hs hr hi
  go_enter Tryz.func76, Tryz.ntmps76
  go_wp2_with fail
  refine wp_region_tail (by kernel_rfl) 10 [0, 1] (by kernel_rfl) (fun a b => Below a.heap.size a b) (fun a b c h k => below_tr h k) (ext_drew (Below.refl _ _)) (foldSlot r b o c x i) (fun t W W' v h hb => foldSlot_mono r b o c x i t W W' v h hb) ?_ ?_ ?_
  · intro t ht W hW
    simp only [List.mem_cons, List.mem_nil_iff, or_false] at ht
    rcases ht with rfl | rfl <;> exact rfl
  · refine ⟨?_, ?_, ?_, ?_, ?_, ?_, ?_, ?_, ?_, ?_, trivial⟩
    · intro a W hG hk K hK
      have h0 : a.tmps.getD 0 undef = .pointer (some ⟨r, 0, none⟩) := hk 0 (List.mem_of_elem_eq_true (by kernel_rfl))
      clear hk
      simp only [Array.getD_eq_getD_getElem?] at h0 ⊢
      go_simp
      exact hK _ _ (by rintro d ⟨⟩; rfl) (Below.refl _ _)
    · intro a W hG hk K hK
      clear hk
      go_simp
      refine (HN _).out.mono ?_
      rintro e w1 ⟨g, rfl, hb1, hN⟩
      exact hK _ _ (by rintro d ⟨⟩; exact ⟨g, rfl, hN⟩) hb1
    · intro a W hG hk K hK
      have h1 : a.tmps.getD 1 undef = .slice (some ⟨b, o, none⟩) 1 c := hk 1 (List.mem_of_elem_eq_true (by kernel_rfl))
      clear hk
      simp only [Array.getD_eq_getD_getElem?] at h1 ⊢
      go_simp
      exact hK _ _ (by rintro d ⟨⟩; rfl) (Below.refl _ _)
    · intro a W hG hk K hK
      have h7 : a.tmps.getD 7 undef = .slice (some ⟨b, o, none⟩) 1 c := hk 7 (List.mem_of_elem_eq_true (by kernel_rfl))
      clear hk
      simp only [Array.getD_eq_getD_getElem?] at h7 ⊢
      go_simp
      exact hK _ _ (by rintro d ⟨⟩; rfl) (Below.refl _ _)
    · intro a W hG hk K hK
      have h8 : a.tmps.getD 8 undef = .pointer (some ⟨b, o, none⟩) := hk 8 (List.mem_of_elem_eq_true (by kernel_rfl))
      clear hk
      have hcw : W.cell? ⟨b, o, none⟩ = some (.string x) := ((bcell hG).1 _ _ hz).trans hcy
      simp only [Array.getD_eq_getD_getElem?] at h8 ⊢
      go_simp
      exact hK _ _ (by rintro d ⟨⟩; rfl) (Below.refl _ _)
    · intro a W hG hk K hK
      obtain ⟨g, h6, hN⟩ : ∃ g, a.tmps.getD 6 undef = .slice (some ⟨g, 0, none⟩) 5 5 ∧ NamesIn g W := hk 6 (List.mem_of_elem_eq_true (by kernel_rfl))
      have h9 : a.tmps.getD 9 undef = .string x := hk 9 (List.mem_of_elem_eq_true (by kernel_rfl))
      clear hk
      simp only [Array.getD_eq_getD_getElem?] at h6 h9 ⊢
      go_simp
      refine (HX g _ hN).out.mono ?_
      rintro e w1 ⟨rfl, hb1⟩
      exact hK _ _ (by rintro d ⟨⟩; rfl) hb1
    · intro a W hG hk K hK
      have h10 : a.tmps.getD 10 undef = .int .i64 i := hk 10 (List.mem_of_elem_eq_true (by kernel_rfl))
      clear hk
      have hwr : IntKind.i64.wrap (i + 1) = i + 1 := IntWalk.i64_in _ (by omega)
      simp only [Array.getD_eq_getD_getElem?] at h10 ⊢
      go_simp
      exact hK _ _ (by rintro d ⟨⟩; rfl) (Below.refl _ _)
    · intro a W hG hk K hK
      have h5 : a.tmps.getD 5 undef = .pointer (some ⟨r, 0, none⟩) := hk 5 (List.mem_of_elem_eq_true (by kernel_rfl))
      clear hk
      simp only [Array.getD_eq_getD_getElem?] at h5 ⊢
      go_simp
      exact hK _ _ (by rintro d ⟨⟩; rfl) (Below.refl _ _)
    · intro a W hG hk K hK
      have h12 : a.tmps.getD 12 undef = .pointer (some ⟨r, 0, none⟩) := hk 12 (List.mem_of_elem_eq_true (by kernel_rfl))
      clear hk
      simp only [Array.getD_eq_getD_getElem?] at h12 ⊢
      go_simp
      exact hK _ _ (by rintro d ⟨⟩; rfl) (Below.refl _ _)
    · intro a W hG hk K hK
      have h13 : a.tmps.getD 13 undef = .pointer (some ⟨r, 0, none⟩) := hk 13 (List.mem_of_elem_eq_true (by kernel_rfl))
      clear hk
      simp only [Array.getD_eq_getD_getElem?] at h13 ⊢
      go_simp
      exact hK _ _ (by rintro d ⟨⟩; rfl) (Below.refl _ _)
  · intro a W hG hd hs hold hnew
    obtain ⟨g, h6, _⟩ := hnew 6 1 (by kernel_rfl)
    obtain rfl := frame_puts [(5, .pointer (some ⟨r, 0, none⟩)), (6, .slice (some ⟨g, 0, none⟩) 5 5), (7, .slice (some ⟨b, o, none⟩) 1 c), (8, .pointer (some ⟨b, o, none⟩)), (9, .string x), (10, .int .i64 i), (11, .int .i64 (i + 1)), (12, .pointer (some ⟨r, 0, none⟩)), (13, .pointer (some ⟨r, 0, none⟩)), (14, .pointer (some ⟨r, 3, none⟩))] hd hs hold (by kernel_rfl) ⟨hnew 5 0 (by kernel_rfl), h6, hnew 7 2 (by kernel_rfl), hnew 8 3 (by kernel_rfl), hnew 9 4 (by kernel_rfl), hnew 10 5 (by kernel_rfl), hnew 11 6 (by kernel_rfl), hnew 12 7 (by kernel_rfl), hnew 13 8 (by kernel_rfl), hnew 14 9 (by kernel_rfl), trivial⟩
    clear hold hnew hd hs h6
    simp only [puts, Act.put, List.setIfInBounds_toArray, List.set_cons_succ, List.set_cons_zero]
    have HR1 := Lib.hid (HR.out.mono hG)
    obtain ⟨c1, u1⟩ := rd_cell HR1.out 3 _ rfl
    have HR2 := Lib.hid (rd_set (j' := { j with fold := i + 1 }) HR1.out 3 _ rfl)
    have c2 : (W.setCell ⟨r, 3, none⟩ (.int .i64 (i + 1))).cell? ⟨r, 3, none⟩ = some (.int .i64 (i + 1)) := (rd_cell HR2.out 3 _ rfl).1
    show wpList _ _ _ [_] _ _
    go_wp2_with fail
    go_ret
    refine ⟨decide (0 < i + 1), _, rfl, HR2.out, grown_below hG (grown_set _ _ _), ?_⟩
    rcases HI.out with ⟨k, h, hk, hx⟩ | ⟨h, hno⟩
    · exact .inl ⟨by simp; omega, by rw [lineP3]; exact ⟨_, i + 1, rfl, by simp [foldB]; omega, by rw [hx, h], rfl⟩⟩
    · exact .inr ⟨by simp; omega, fun c hc => by rw [lineP3] at hc; obtain ⟨_, f, e, hf, hx, _⟩ := hc; injection e with e _; subst e; exact hno f hf hx⟩
end Go.Proofs.YtljbclkbmjjmdaaGreatDoor
