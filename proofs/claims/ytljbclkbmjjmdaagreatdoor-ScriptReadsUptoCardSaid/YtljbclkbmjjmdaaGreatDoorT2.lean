/- A job's lines, as they are printed. -/
import Derived.Test.YtljbclkbmjjmdaaGreatDoorT1
import Derived.Test.YtljbclkbmjjmdaaGreatDoorReg
namespace Go.Proofs.YtljbclkbmjjmdaaGreatDoor
open Go.RowKit Go.Shelf
theorem names_calls (k : Int) (hk : foldB k = true) (w : World) : Calls Tryz.prog 56 #[] w fun e w' => ∃ g, e = .returned (.slice (some ⟨g, 0, none⟩) 5 5) ∧ Below w.heap.size w w' ∧ w'.cell? ⟨g, k.toNat - 1, none⟩ = some (.string ⟨(foldL k).toArray⟩) := by
  have hk : k = 1 ∨ k = 2 ∨ k = 3 ∨ k = 4 ∨ k = 5 := by unfold foldB at hk; simp at hk; omega
  go_enter Tryz.func56, Tryz.ntmps56
  go_wp2
  go_ret
  refine ⟨w.heap.size, rfl, by (repeat (first | exact Below.refl _ _ | assumption | refine ext_alloc ?_ _ | refine below_drewN ?_ _ | refine ext_drew ?_ | (refine below_tr ?_ (by assumption)))), ?_⟩
  rcases hk with h | h | h | h | h
  all_goals
    subst h
    simp [foldL]
/-- Its contract behind a name, for the region. -/
def NamesPost (k : Int) (sF : ByteArray) (w : World) (e : Ending) (w' : World) : Prop := ∃ g, e = .returned (.slice (some ⟨g, 0, none⟩) 5 5) ∧ Below w.heap.size w w' ∧ w'.cell? ⟨g, k.toNat - 1, none⟩ = some (.string sF)
/-- What is known of each slot of the great statement. -/
def jobSlot (j : Jb) (sgroups : ByteArray) (ssize : ByteArray) (sslide : ByteArray) (slimit : ByteArray) (sfuel : ByteArray) (sdelay : ByteArray) (sidle : ByteArray) (sFOLD : ByteArray) (w : World) (t : Tmp) (W : World) (v : Value) : Prop :=
  match t with
  | 0 => v = .agg #[.int .i64 j.groups, .int .i64 j.size, .int .i64 j.slide, .int .i64 j.fold, .int .i64 j.fuel, .int .i64 j.limit, .int .i64 j.delay, .int .i64 j.idle]
  | 1 => v = .pointer (some ⟨w.heap.size, 0, none⟩)
  | 2 => v = .string (ByteArray.mk #[103, 114, 111, 117, 112, 115] ++ sgroups ++ ByteArray.mk #[10, 119, 105, 110, 100, 111, 119] ++ ssize ++ sslide ++ ByteArray.mk #[10, 102, 111, 108, 100, 32] ++ sFOLD ++ ByteArray.mk #[10, 108, 111, 111, 112] ++ slimit ++ sfuel ++ ByteArray.mk #[10, 100, 101, 108, 97, 121] ++ sdelay ++ ByteArray.mk #[10, 105, 100, 108, 101] ++ sidle ++ ByteArray.mk #[10])
  | 3 => v = .int .i64 0
  | 4 => v = .func (.func 54) #[] #[]
  | 5 => v = .agg #[.int .i64 j.groups, .int .i64 j.size, .int .i64 j.slide, .int .i64 j.fold, .int .i64 j.fuel, .int .i64 j.limit, .int .i64 j.delay, .int .i64 j.idle]
  | 6 => v = .bool true
  | 7 => v = .bool false
  | 8 => v = .func (.func 54) #[] #[]
  | 9 => v = .pointer (some ⟨w.heap.size, 0, none⟩)
  | 10 => v = .int .i64 j.groups
  | 11 => v = .string sgroups
  | 12 => v = .string (ByteArray.mk #[103, 114, 111, 117, 112, 115] ++ sgroups)
  | 13 => v = .string (ByteArray.mk #[103, 114, 111, 117, 112, 115] ++ sgroups ++ ByteArray.mk #[10, 119, 105, 110, 100, 111, 119])
  | 14 => v = .func (.func 54) #[] #[]
  | 15 => v = .pointer (some ⟨w.heap.size, 1, none⟩)
  | 16 => v = .int .i64 j.size
  | 17 => v = .string ssize
  | 18 => v = .string (ByteArray.mk #[103, 114, 111, 117, 112, 115] ++ sgroups ++ ByteArray.mk #[10, 119, 105, 110, 100, 111, 119] ++ ssize)
  | 19 => v = .func (.func 54) #[] #[]
  | 20 => v = .pointer (some ⟨w.heap.size, 2, none⟩)
  | 21 => v = .int .i64 j.slide
  | 22 => v = .string sslide
  | 23 => v = .string (ByteArray.mk #[103, 114, 111, 117, 112, 115] ++ sgroups ++ ByteArray.mk #[10, 119, 105, 110, 100, 111, 119] ++ ssize ++ sslide)
  | 24 => v = .string (ByteArray.mk #[103, 114, 111, 117, 112, 115] ++ sgroups ++ ByteArray.mk #[10, 119, 105, 110, 100, 111, 119] ++ ssize ++ sslide ++ ByteArray.mk #[10, 102, 111, 108, 100, 32])
  | 25 => ∃ g, v = .slice (some ⟨g, 0, none⟩) 5 5 ∧ W.cell? ⟨g, j.fold.toNat - 1, none⟩ = some (.string sFOLD)
  | 26 => v = .pointer (some ⟨w.heap.size, 3, none⟩)
  | 27 => v = .int .i64 j.fold
  | 28 => v = .int .i64 (j.fold - 1)
  | 29 => ∃ g, v = .pointer (some ⟨g, j.fold.toNat - 1, none⟩) ∧ W.cell? ⟨g, j.fold.toNat - 1, none⟩ = some (.string sFOLD)
  | 30 => v = .string sFOLD
  | 31 => v = .string (ByteArray.mk #[103, 114, 111, 117, 112, 115] ++ sgroups ++ ByteArray.mk #[10, 119, 105, 110, 100, 111, 119] ++ ssize ++ sslide ++ ByteArray.mk #[10, 102, 111, 108, 100, 32] ++ sFOLD)
  | 32 => v = .string (ByteArray.mk #[103, 114, 111, 117, 112, 115] ++ sgroups ++ ByteArray.mk #[10, 119, 105, 110, 100, 111, 119] ++ ssize ++ sslide ++ ByteArray.mk #[10, 102, 111, 108, 100, 32] ++ sFOLD ++ ByteArray.mk #[10, 108, 111, 111, 112])
  | 33 => v = .func (.func 54) #[] #[]
  | 34 => v = .pointer (some ⟨w.heap.size, 5, none⟩)
  | 35 => v = .int .i64 j.limit
  | 36 => v = .string slimit
  | 37 => v = .string (ByteArray.mk #[103, 114, 111, 117, 112, 115] ++ sgroups ++ ByteArray.mk #[10, 119, 105, 110, 100, 111, 119] ++ ssize ++ sslide ++ ByteArray.mk #[10, 102, 111, 108, 100, 32] ++ sFOLD ++ ByteArray.mk #[10, 108, 111, 111, 112] ++ slimit)
  | 38 => v = .func (.func 54) #[] #[]
  | 39 => v = .pointer (some ⟨w.heap.size, 4, none⟩)
  | 40 => v = .int .i64 j.fuel
  | 41 => v = .string sfuel
  | 42 => v = .string (ByteArray.mk #[103, 114, 111, 117, 112, 115] ++ sgroups ++ ByteArray.mk #[10, 119, 105, 110, 100, 111, 119] ++ ssize ++ sslide ++ ByteArray.mk #[10, 102, 111, 108, 100, 32] ++ sFOLD ++ ByteArray.mk #[10, 108, 111, 111, 112] ++ slimit ++ sfuel)
  | 43 => v = .string (ByteArray.mk #[103, 114, 111, 117, 112, 115] ++ sgroups ++ ByteArray.mk #[10, 119, 105, 110, 100, 111, 119] ++ ssize ++ sslide ++ ByteArray.mk #[10, 102, 111, 108, 100, 32] ++ sFOLD ++ ByteArray.mk #[10, 108, 111, 111, 112] ++ slimit ++ sfuel ++ ByteArray.mk #[10, 100, 101, 108, 97, 121])
  | 44 => v = .func (.func 54) #[] #[]
  | 45 => v = .pointer (some ⟨w.heap.size, 6, none⟩)
  | 46 => v = .int .i64 j.delay
  | 47 => v = .string sdelay
  | 48 => v = .string (ByteArray.mk #[103, 114, 111, 117, 112, 115] ++ sgroups ++ ByteArray.mk #[10, 119, 105, 110, 100, 111, 119] ++ ssize ++ sslide ++ ByteArray.mk #[10, 102, 111, 108, 100, 32] ++ sFOLD ++ ByteArray.mk #[10, 108, 111, 111, 112] ++ slimit ++ sfuel ++ ByteArray.mk #[10, 100, 101, 108, 97, 121] ++ sdelay)
  | 49 => v = .string (ByteArray.mk #[103, 114, 111, 117, 112, 115] ++ sgroups ++ ByteArray.mk #[10, 119, 105, 110, 100, 111, 119] ++ ssize ++ sslide ++ ByteArray.mk #[10, 102, 111, 108, 100, 32] ++ sFOLD ++ ByteArray.mk #[10, 108, 111, 111, 112] ++ slimit ++ sfuel ++ ByteArray.mk #[10, 100, 101, 108, 97, 121] ++ sdelay ++ ByteArray.mk #[10, 105, 100, 108, 101])
  | 50 => v = .func (.func 54) #[] #[]
  | 51 => v = .pointer (some ⟨w.heap.size, 7, none⟩)
  | 52 => v = .int .i64 j.idle
  | 53 => v = .string sidle
  | 54 => v = .string (ByteArray.mk #[103, 114, 111, 117, 112, 115] ++ sgroups ++ ByteArray.mk #[10, 119, 105, 110, 100, 111, 119] ++ ssize ++ sslide ++ ByteArray.mk #[10, 102, 111, 108, 100, 32] ++ sFOLD ++ ByteArray.mk #[10, 108, 111, 111, 112] ++ slimit ++ sfuel ++ ByteArray.mk #[10, 100, 101, 108, 97, 121] ++ sdelay ++ ByteArray.mk #[10, 105, 100, 108, 101] ++ sidle)
  | 55 => v = .string (ByteArray.mk #[103, 114, 111, 117, 112, 115] ++ sgroups ++ ByteArray.mk #[10, 119, 105, 110, 100, 111, 119] ++ ssize ++ sslide ++ ByteArray.mk #[10, 102, 111, 108, 100, 32] ++ sFOLD ++ ByteArray.mk #[10, 108, 111, 111, 112] ++ slimit ++ sfuel ++ ByteArray.mk #[10, 100, 101, 108, 97, 121] ++ sdelay ++ ByteArray.mk #[10, 105, 100, 108, 101] ++ sidle ++ ByteArray.mk #[10])
  | _ => True
theorem jobSlot_mono (j : Jb) (sgroups : ByteArray) (ssize : ByteArray) (sslide : ByteArray) (slimit : ByteArray) (sfuel : ByteArray) (sdelay : ByteArray) (sidle : ByteArray) (sFOLD : ByteArray) (w : World) (t : Tmp) (W W' : World) (v : Value) (h : jobSlot j sgroups ssize sslide slimit sfuel sdelay sidle sFOLD w t W v) (hb : Below W.heap.size W W') : jobSlot j sgroups ssize sslide slimit sfuel sdelay sidle sFOLD w t W' v := by
  unfold jobSlot at h ⊢
  split at h <;> first | exact h | (obtain ⟨g, hv, hc⟩ := h; exact ⟨g, hv, cell_later hb hc⟩)
set_option maxHeartbeats 4000000 in
set_option maxRecDepth 100000 in
theorem job_lines (j : Jb) (hf : foldB j.fold = true) (sgroups : ByteArray) (ssize : ByteArray) (sslide : ByteArray) (slimit : ByteArray) (sfuel : ByteArray) (sdelay : ByteArray) (sidle : ByteArray) (sFOLD : ByteArray) (hgroups : sgroups.size ≤ 21) (hsize : ssize.size ≤ 21) (hslide : sslide.size ≤ 21) (hlimit : slimit.size ≤ 21) (hfuel : sfuel.size ≤ 21) (hdelay : sdelay.size ≤ 21) (hidle : sidle.size ≤ 21) (hFOLD : sFOLD.size ≤ 21) (w : World) (ht : Tab (w.alloc (.cells #[.int .i64 j.groups, .int .i64 j.size, .int .i64 j.slide, .int .i64 j.fold, .int .i64 j.fuel, .int .i64 j.limit, .int .i64 j.delay, .int .i64 j.idle] 23)))
    (hR : Calls Tryz.prog 34 #[.agg #[.int .i64 j.groups, .int .i64 j.size, .int .i64 j.slide, .int .i64 j.fold, .int .i64 j.fuel, .int .i64 j.limit, .int .i64 j.delay, .int .i64 j.idle]] (w.alloc (.cells #[.int .i64 j.groups, .int .i64 j.size, .int .i64 j.slide, .int .i64 j.fold, .int .i64 j.fuel, .int .i64 j.limit, .int .i64 j.delay, .int .i64 j.idle] 23)) fun r w' => r = .returned (.bool true) ∧ Below (w.alloc (.cells #[.int .i64 j.groups, .int .i64 j.size, .int .i64 j.slide, .int .i64 j.fold, .int .i64 j.fuel, .int .i64 j.limit, .int .i64 j.delay, .int .i64 j.idle] 23)).heap.size (w.alloc (.cells #[.int .i64 j.groups, .int .i64 j.size, .int .i64 j.slide, .int .i64 j.fold, .int .i64 j.fuel, .int .i64 j.limit, .int .i64 j.delay, .int .i64 j.idle] 23)) w')
    (hN : ∀ W, Calls Tryz.prog 56 #[] W (NamesPost j.fold sFOLD W))
    (hngroups : ∀ W, Tab W → Calls Tryz.prog 54 #[.int .i64 j.groups] W fun e w' => e = .returned (.string sgroups) ∧ Below W.heap.size W w') (hnsize : ∀ W, Tab W → Calls Tryz.prog 54 #[.int .i64 j.size] W fun e w' => e = .returned (.string ssize) ∧ Below W.heap.size W w') (hnslide : ∀ W, Tab W → Calls Tryz.prog 54 #[.int .i64 j.slide] W fun e w' => e = .returned (.string sslide) ∧ Below W.heap.size W w') (hnlimit : ∀ W, Tab W → Calls Tryz.prog 54 #[.int .i64 j.limit] W fun e w' => e = .returned (.string slimit) ∧ Below W.heap.size W w') (hnfuel : ∀ W, Tab W → Calls Tryz.prog 54 #[.int .i64 j.fuel] W fun e w' => e = .returned (.string sfuel) ∧ Below W.heap.size W w') (hndelay : ∀ W, Tab W → Calls Tryz.prog 54 #[.int .i64 j.delay] W fun e w' => e = .returned (.string sdelay) ∧ Below W.heap.size W w') (hnidle : ∀ W, Tab W → Calls Tryz.prog 54 #[.int .i64 j.idle] W fun e w' => e = .returned (.string sidle) ∧ Below W.heap.size W w') :
    Calls Tryz.prog 27 #[.agg #[.int .i64 j.groups, .int .i64 j.size, .int .i64 j.slide, .int .i64 j.fold, .int .i64 j.fuel, .int .i64 j.limit, .int .i64 j.delay, .int .i64 j.idle]] w fun e w' => e = .returned (.tuple #[.string (ByteArray.mk #[103, 114, 111, 117, 112, 115] ++ sgroups ++ ByteArray.mk #[10, 119, 105, 110, 100, 111, 119] ++ ssize ++ sslide ++ ByteArray.mk #[10, 102, 111, 108, 100, 32] ++ sFOLD ++ ByteArray.mk #[10, 108, 111, 111, 112] ++ slimit ++ sfuel ++ ByteArray.mk #[10, 100, 101, 108, 97, 121] ++ sdelay ++ ByteArray.mk #[10, 105, 100, 108, 101] ++ sidle ++ ByteArray.mk #[10]), .int .i64 0]) ∧ Below w.heap.size w w' := by
  have hf0 : (0 : Int) ≤ j.fold - 1 := by unfold foldB at hf; simp at hf; omega
  have hf1 : j.fold - 1 < 5 := by unfold foldB at hf; simp at hf; omega
  have hf3 : (1 : Int) ≤ j.fold := by omega
  have hf4 : j.fold < 6 := by omega
  have hf2 : IntKind.i64.wrap (j.fold - 1) = j.fold - 1 := IntWalk.i64_in _ (by omega)
  have n1 : ¬ 9223372036854775807 < 6 + sgroups.size := by omega
  have n2 : ¬ 9223372036854775807 < 6 + sgroups.size + 7 := by omega
  have n3 : ¬ 9223372036854775807 < 6 + sgroups.size + 7 + ssize.size := by omega
  have n4 : ¬ 9223372036854775807 < 6 + sgroups.size + 7 + ssize.size + sslide.size := by omega
  have n5 : ¬ 9223372036854775807 < 6 + sgroups.size + 7 + ssize.size + sslide.size + 6 := by omega
  have n6 : ¬ 9223372036854775807 < 6 + sgroups.size + 7 + ssize.size + sslide.size + 6 + sFOLD.size := by omega
  have n7 : ¬ 9223372036854775807 < 6 + sgroups.size + 7 + ssize.size + sslide.size + 6 + sFOLD.size + 5 := by omega
  have n8 : ¬ 9223372036854775807 < 6 + sgroups.size + 7 + ssize.size + sslide.size + 6 + sFOLD.size + 5 + slimit.size := by omega
  have n9 : ¬ 9223372036854775807 < 6 + sgroups.size + 7 + ssize.size + sslide.size + 6 + sFOLD.size + 5 + slimit.size + sfuel.size := by omega
  have n10 : ¬ 9223372036854775807 < 6 + sgroups.size + 7 + ssize.size + sslide.size + 6 + sFOLD.size + 5 + slimit.size + sfuel.size + 6 := by omega
  have n11 : ¬ 9223372036854775807 < 6 + sgroups.size + 7 + ssize.size + sslide.size + 6 + sFOLD.size + 5 + slimit.size + sfuel.size + 6 + sdelay.size := by omega
  have n12 : ¬ 9223372036854775807 < 6 + sgroups.size + 7 + ssize.size + sslide.size + 6 + sFOLD.size + 5 + slimit.size + sfuel.size + 6 + sdelay.size + 5 := by omega
  have n13 : ¬ 9223372036854775807 < 6 + sgroups.size + 7 + ssize.size + sslide.size + 6 + sFOLD.size + 5 + slimit.size + sfuel.size + 6 + sdelay.size + 5 + sidle.size := by omega
  have n14 : ¬ 9223372036854775807 < 6 + sgroups.size + 7 + ssize.size + sslide.size + 6 + sFOLD.size + 5 + slimit.size + sfuel.size + 6 + sdelay.size + 5 + sidle.size + 1 := by omega
  have HR := Lib.hid hR
  have HN := Lib.hid hN
  have eg : ∀ (args : Array Value) (w : World), (callFunc 54 args).run Tryz.prog w = .ok (.enter 54 args) w := enters_of Tryz.func54 (by kernel_rfl) rfl
  clear hR hN hf
  go_enter Tryz.func27, Tryz.ntmps27
  go_wp2_with (go_at_call 34; refine HR.out.mono ?_; rintro r w0 ⟨rfl, hb0⟩; obtain ⟨hc0, hf0'⟩ := bcell hb0)
  have ht0 : Tab w0 := ht.mono hb0
  have hbw : Below w.heap.size w w0 := by (repeat (first | exact Below.refl _ _ | assumption | refine ext_alloc ?_ _ | refine below_drewN ?_ _ | refine ext_drew ?_ | (refine below_tr ?_ (by assumption))))
  have hz0 : w.heap.size < w0.heap.size := by have := hb0.size; simp at this; omega
  have k0 : w0.cell? ⟨w.heap.size, 0, none⟩ = some (.int .i64 j.groups) := by rw [hc0 _ _ (by simp)]; exact box_cell _ _ _ _ _ rfl
  have k1 : w0.cell? ⟨w.heap.size, 1, none⟩ = some (.int .i64 j.size) := by rw [hc0 _ _ (by simp)]; exact box_cell _ _ _ _ _ rfl
  have k2 : w0.cell? ⟨w.heap.size, 2, none⟩ = some (.int .i64 j.slide) := by rw [hc0 _ _ (by simp)]; exact box_cell _ _ _ _ _ rfl
  have k3 : w0.cell? ⟨w.heap.size, 3, none⟩ = some (.int .i64 j.fold) := by rw [hc0 _ _ (by simp)]; exact box_cell _ _ _ _ _ rfl
  have k4 : w0.cell? ⟨w.heap.size, 4, none⟩ = some (.int .i64 j.fuel) := by rw [hc0 _ _ (by simp)]; exact box_cell _ _ _ _ _ rfl
  have k5 : w0.cell? ⟨w.heap.size, 5, none⟩ = some (.int .i64 j.limit) := by rw [hc0 _ _ (by simp)]; exact box_cell _ _ _ _ _ rfl
  have k6 : w0.cell? ⟨w.heap.size, 6, none⟩ = some (.int .i64 j.delay) := by rw [hc0 _ _ (by simp)]; exact box_cell _ _ _ _ _ rfl
  have k7 : w0.cell? ⟨w.heap.size, 7, none⟩ = some (.int .i64 j.idle) := by rw [hc0 _ _ (by simp)]; exact box_cell _ _ _ _ _ rfl
  clear hc0 hf0' hb0 ht
  refine wp_region_free (by kernel_rfl) [1, 4] (by kernel_rfl) (fun a b => Below a.heap.size a b) (fun a b c h k => below_tr h k) (ext_drew (Below.refl _ _)) (jobSlot j sgroups ssize sslide slimit sfuel sdelay sidle sFOLD w) (fun t W W' v h hb => jobSlot_mono _ _ _ _ _ _ _ _ _ _ t W W' v h hb) ?_ ?_ ?_
  · intro t ht W hW
    rcases List.mem_cons.1 ht with rfl | ht
    · exact rfl
    · rcases List.mem_cons.1 ht with rfl | ht
      · exact rfl
      · cases ht
  · refine ⟨?_, ?_, ?_, ?_, ?_, ?_, ?_, ?_, ?_, ?_, ?_, ?_, ?_, ?_, ?_, ?_, ?_, ?_, ?_, ?_, ?_, ?_, ?_, ?_, ?_, ?_, ?_, ?_, ?_, ?_, ?_, ?_, ?_, ?_, ?_, ?_, ?_, ?_, ?_, ?_, ?_, ?_, ?_, ?_, ?_, ?_, ?_, ?_, ?_, ?_, trivial⟩
    · intro a W hG hk K hK
      have h4 : a.tmps.getD 4 undef = .func (.func 54) #[] #[] := hk 4 (List.mem_of_elem_eq_true (by kernel_rfl))
      clear hk
      simp only [Array.getD_eq_getD_getElem?] at h4 ⊢
      go_simp
      exact hK _ _ (by rintro d ⟨⟩; rfl) (Below.refl _ _)
    · intro a W hG hk K hK
      have h1 : a.tmps.getD 1 undef = .pointer (some ⟨w.heap.size, 0, none⟩) := hk 1 (List.mem_of_elem_eq_true (by kernel_rfl))
      clear hk
      simp only [Array.getD_eq_getD_getElem?] at h1 ⊢
      go_simp
      exact hK _ _ (by rintro d ⟨⟩; rfl) (Below.refl _ _)
    · intro a W hG hk K hK
      have h9 : a.tmps.getD 9 undef = .pointer (some ⟨w.heap.size, 0, none⟩) := hk 9 (List.mem_of_elem_eq_true (by kernel_rfl))
      clear hk
      have hc : W.cell? ⟨w.heap.size, 0, none⟩ = some (.int .i64 j.groups) := ((bcell hG).1 _ _ hz0).trans k0
      simp only [Array.getD_eq_getD_getElem?] at h9 ⊢
      go_simp
      exact hK _ _ (by rintro d ⟨⟩; rfl) (Below.refl _ _)
    · intro a W hG hk K hK
      have h8 : a.tmps.getD 8 undef = .func (.func 54) #[] #[] := hk 8 (List.mem_of_elem_eq_true (by kernel_rfl))
      have h10 : a.tmps.getD 10 undef = .int .i64 j.groups := hk 10 (List.mem_of_elem_eq_true (by kernel_rfl))
      clear hk
      simp only [Array.getD_eq_getD_getElem?] at h8 h10 ⊢
      have hT : Tab W := ht0.mono hG
      go_simp
      refine (hngroups _ hT).mono ?_
      rintro r w1 ⟨rfl, hb1⟩
      exact hK _ _ (by rintro d ⟨⟩; rfl) hb1
    · intro a W hG hk K hK
      have h11 : a.tmps.getD 11 undef = .string sgroups := hk 11 (List.mem_of_elem_eq_true (by kernel_rfl))
      clear hk
      simp only [Array.getD_eq_getD_getElem?] at h11 ⊢
      go_simp
      exact hK _ _ (by rintro d ⟨⟩; rfl) (Below.refl _ _)
    · intro a W hG hk K hK
      have h12 : a.tmps.getD 12 undef = .string (ByteArray.mk #[103, 114, 111, 117, 112, 115] ++ sgroups) := hk 12 (List.mem_of_elem_eq_true (by kernel_rfl))
      clear hk
      simp only [Array.getD_eq_getD_getElem?] at h12 ⊢
      go_simp
      exact hK _ _ (by rintro d ⟨⟩; rfl) (Below.refl _ _)
    · intro a W hG hk K hK
      have h4 : a.tmps.getD 4 undef = .func (.func 54) #[] #[] := hk 4 (List.mem_of_elem_eq_true (by kernel_rfl))
      clear hk
      simp only [Array.getD_eq_getD_getElem?] at h4 ⊢
      go_simp
      exact hK _ _ (by rintro d ⟨⟩; rfl) (Below.refl _ _)
    · intro a W hG hk K hK
      have h1 : a.tmps.getD 1 undef = .pointer (some ⟨w.heap.size, 0, none⟩) := hk 1 (List.mem_of_elem_eq_true (by kernel_rfl))
      clear hk
      simp only [Array.getD_eq_getD_getElem?] at h1 ⊢
      go_simp
      exact hK _ _ (by rintro d ⟨⟩; rfl) (Below.refl _ _)
    · intro a W hG hk K hK
      have h15 : a.tmps.getD 15 undef = .pointer (some ⟨w.heap.size, 1, none⟩) := hk 15 (List.mem_of_elem_eq_true (by kernel_rfl))
      clear hk
      have hc : W.cell? ⟨w.heap.size, 1, none⟩ = some (.int .i64 j.size) := ((bcell hG).1 _ _ hz0).trans k1
      simp only [Array.getD_eq_getD_getElem?] at h15 ⊢
      go_simp
      exact hK _ _ (by rintro d ⟨⟩; rfl) (Below.refl _ _)
    · intro a W hG hk K hK
      have h14 : a.tmps.getD 14 undef = .func (.func 54) #[] #[] := hk 14 (List.mem_of_elem_eq_true (by kernel_rfl))
      have h16 : a.tmps.getD 16 undef = .int .i64 j.size := hk 16 (List.mem_of_elem_eq_true (by kernel_rfl))
      clear hk
      simp only [Array.getD_eq_getD_getElem?] at h14 h16 ⊢
      have hT : Tab W := ht0.mono hG
      go_simp
      refine (hnsize _ hT).mono ?_
      rintro r w1 ⟨rfl, hb1⟩
      exact hK _ _ (by rintro d ⟨⟩; rfl) hb1
    · intro a W hG hk K hK
      have h13 : a.tmps.getD 13 undef = .string (ByteArray.mk #[103, 114, 111, 117, 112, 115] ++ sgroups ++ ByteArray.mk #[10, 119, 105, 110, 100, 111, 119]) := hk 13 (List.mem_of_elem_eq_true (by kernel_rfl))
      have h17 : a.tmps.getD 17 undef = .string ssize := hk 17 (List.mem_of_elem_eq_true (by kernel_rfl))
      clear hk
      simp only [Array.getD_eq_getD_getElem?] at h13 h17 ⊢
      go_simp
      exact hK _ _ (by rintro d ⟨⟩; rfl) (Below.refl _ _)
    · intro a W hG hk K hK
      have h4 : a.tmps.getD 4 undef = .func (.func 54) #[] #[] := hk 4 (List.mem_of_elem_eq_true (by kernel_rfl))
      clear hk
      simp only [Array.getD_eq_getD_getElem?] at h4 ⊢
      go_simp
      exact hK _ _ (by rintro d ⟨⟩; rfl) (Below.refl _ _)
    · intro a W hG hk K hK
      have h1 : a.tmps.getD 1 undef = .pointer (some ⟨w.heap.size, 0, none⟩) := hk 1 (List.mem_of_elem_eq_true (by kernel_rfl))
      clear hk
      simp only [Array.getD_eq_getD_getElem?] at h1 ⊢
      go_simp
      exact hK _ _ (by rintro d ⟨⟩; rfl) (Below.refl _ _)
    · intro a W hG hk K hK
      have h20 : a.tmps.getD 20 undef = .pointer (some ⟨w.heap.size, 2, none⟩) := hk 20 (List.mem_of_elem_eq_true (by kernel_rfl))
      clear hk
      have hc : W.cell? ⟨w.heap.size, 2, none⟩ = some (.int .i64 j.slide) := ((bcell hG).1 _ _ hz0).trans k2
      simp only [Array.getD_eq_getD_getElem?] at h20 ⊢
      go_simp
      exact hK _ _ (by rintro d ⟨⟩; rfl) (Below.refl _ _)
    · intro a W hG hk K hK
      have h19 : a.tmps.getD 19 undef = .func (.func 54) #[] #[] := hk 19 (List.mem_of_elem_eq_true (by kernel_rfl))
      have h21 : a.tmps.getD 21 undef = .int .i64 j.slide := hk 21 (List.mem_of_elem_eq_true (by kernel_rfl))
      clear hk
      simp only [Array.getD_eq_getD_getElem?] at h19 h21 ⊢
      have hT : Tab W := ht0.mono hG
      go_simp
      refine (hnslide _ hT).mono ?_
      rintro r w1 ⟨rfl, hb1⟩
      exact hK _ _ (by rintro d ⟨⟩; rfl) hb1
    · intro a W hG hk K hK
      have h18 : a.tmps.getD 18 undef = .string (ByteArray.mk #[103, 114, 111, 117, 112, 115] ++ sgroups ++ ByteArray.mk #[10, 119, 105, 110, 100, 111, 119] ++ ssize) := hk 18 (List.mem_of_elem_eq_true (by kernel_rfl))
      have h22 : a.tmps.getD 22 undef = .string sslide := hk 22 (List.mem_of_elem_eq_true (by kernel_rfl))
      clear hk
      simp only [Array.getD_eq_getD_getElem?] at h18 h22 ⊢
      go_simp
      exact hK _ _ (by rintro d ⟨⟩; rfl) (Below.refl _ _)
    · intro a W hG hk K hK
      have h23 : a.tmps.getD 23 undef = .string (ByteArray.mk #[103, 114, 111, 117, 112, 115] ++ sgroups ++ ByteArray.mk #[10, 119, 105, 110, 100, 111, 119] ++ ssize ++ sslide) := hk 23 (List.mem_of_elem_eq_true (by kernel_rfl))
      clear hk
      simp only [Array.getD_eq_getD_getElem?] at h23 ⊢
      go_simp
      exact hK _ _ (by rintro d ⟨⟩; rfl) (Below.refl _ _)
    · intro a W hG hk K hK
      clear hk
      go_simp
      refine (HN.out _).mono ?_
      rintro r w1 ⟨g, rfl, hb1, hcN⟩
      exact hK _ _ (by rintro d ⟨⟩; exact ⟨g, rfl, hcN⟩) hb1
    · intro a W hG hk K hK
      have h1 : a.tmps.getD 1 undef = .pointer (some ⟨w.heap.size, 0, none⟩) := hk 1 (List.mem_of_elem_eq_true (by kernel_rfl))
      clear hk
      simp only [Array.getD_eq_getD_getElem?] at h1 ⊢
      go_simp
      exact hK _ _ (by rintro d ⟨⟩; rfl) (Below.refl _ _)
    · intro a W hG hk K hK
      have h26 : a.tmps.getD 26 undef = .pointer (some ⟨w.heap.size, 3, none⟩) := hk 26 (List.mem_of_elem_eq_true (by kernel_rfl))
      clear hk
      have hc : W.cell? ⟨w.heap.size, 3, none⟩ = some (.int .i64 j.fold) := ((bcell hG).1 _ _ hz0).trans k3
      simp only [Array.getD_eq_getD_getElem?] at h26 ⊢
      go_simp
      exact hK _ _ (by rintro d ⟨⟩; rfl) (Below.refl _ _)
    · intro a W hG hk K hK
      have h27 : a.tmps.getD 27 undef = .int .i64 j.fold := hk 27 (List.mem_of_elem_eq_true (by kernel_rfl))
      clear hk
      simp only [Array.getD_eq_getD_getElem?] at h27 ⊢
      go_simp
      exact hK _ _ (by rintro d ⟨⟩; rfl) (Below.refl _ _)
    · intro a W hG hk K hK
      obtain ⟨g, h25, hcN⟩ : ∃ g, a.tmps.getD 25 undef = .slice (some ⟨g, 0, none⟩) 5 5 ∧ W.cell? ⟨g, j.fold.toNat - 1, none⟩ = some (.string sFOLD) := hk 25 (List.mem_of_elem_eq_true (by kernel_rfl))
      have h28 : a.tmps.getD 28 undef = .int .i64 (j.fold - 1) := hk 28 (List.mem_of_elem_eq_true (by kernel_rfl))
      clear hk
      simp only [Array.getD_eq_getD_getElem?] at h25 h28 ⊢
      go_simp
      exact hK _ _ (by rintro d ⟨⟩; exact ⟨g, rfl, hcN⟩) (Below.refl _ _)
    · intro a W hG hk K hK
      obtain ⟨g, h29, hcN⟩ : ∃ g, a.tmps.getD 29 undef = .pointer (some ⟨g, j.fold.toNat - 1, none⟩) ∧ W.cell? ⟨g, j.fold.toNat - 1, none⟩ = some (.string sFOLD) := hk 29 (List.mem_of_elem_eq_true (by kernel_rfl))
      clear hk
      simp only [Array.getD_eq_getD_getElem?] at h29 ⊢
      go_simp
      exact hK _ _ (by rintro d ⟨⟩; rfl) (Below.refl _ _)
    · intro a W hG hk K hK
      have h24 : a.tmps.getD 24 undef = .string (ByteArray.mk #[103, 114, 111, 117, 112, 115] ++ sgroups ++ ByteArray.mk #[10, 119, 105, 110, 100, 111, 119] ++ ssize ++ sslide ++ ByteArray.mk #[10, 102, 111, 108, 100, 32]) := hk 24 (List.mem_of_elem_eq_true (by kernel_rfl))
      have h30 : a.tmps.getD 30 undef = .string sFOLD := hk 30 (List.mem_of_elem_eq_true (by kernel_rfl))
      clear hk
      simp only [Array.getD_eq_getD_getElem?] at h24 h30 ⊢
      go_simp
      exact hK _ _ (by rintro d ⟨⟩; rfl) (Below.refl _ _)
    · intro a W hG hk K hK
      have h31 : a.tmps.getD 31 undef = .string (ByteArray.mk #[103, 114, 111, 117, 112, 115] ++ sgroups ++ ByteArray.mk #[10, 119, 105, 110, 100, 111, 119] ++ ssize ++ sslide ++ ByteArray.mk #[10, 102, 111, 108, 100, 32] ++ sFOLD) := hk 31 (List.mem_of_elem_eq_true (by kernel_rfl))
      clear hk
      simp only [Array.getD_eq_getD_getElem?] at h31 ⊢
      go_simp
      exact hK _ _ (by rintro d ⟨⟩; rfl) (Below.refl _ _)
    · intro a W hG hk K hK
      have h4 : a.tmps.getD 4 undef = .func (.func 54) #[] #[] := hk 4 (List.mem_of_elem_eq_true (by kernel_rfl))
      clear hk
      simp only [Array.getD_eq_getD_getElem?] at h4 ⊢
      go_simp
      exact hK _ _ (by rintro d ⟨⟩; rfl) (Below.refl _ _)
    · intro a W hG hk K hK
      have h1 : a.tmps.getD 1 undef = .pointer (some ⟨w.heap.size, 0, none⟩) := hk 1 (List.mem_of_elem_eq_true (by kernel_rfl))
      clear hk
      simp only [Array.getD_eq_getD_getElem?] at h1 ⊢
      go_simp
      exact hK _ _ (by rintro d ⟨⟩; rfl) (Below.refl _ _)
    · intro a W hG hk K hK
      have h34 : a.tmps.getD 34 undef = .pointer (some ⟨w.heap.size, 5, none⟩) := hk 34 (List.mem_of_elem_eq_true (by kernel_rfl))
      clear hk
      have hc : W.cell? ⟨w.heap.size, 5, none⟩ = some (.int .i64 j.limit) := ((bcell hG).1 _ _ hz0).trans k5
      simp only [Array.getD_eq_getD_getElem?] at h34 ⊢
      go_simp
      exact hK _ _ (by rintro d ⟨⟩; rfl) (Below.refl _ _)
    · intro a W hG hk K hK
      have h33 : a.tmps.getD 33 undef = .func (.func 54) #[] #[] := hk 33 (List.mem_of_elem_eq_true (by kernel_rfl))
      have h35 : a.tmps.getD 35 undef = .int .i64 j.limit := hk 35 (List.mem_of_elem_eq_true (by kernel_rfl))
      clear hk
      simp only [Array.getD_eq_getD_getElem?] at h33 h35 ⊢
      have hT : Tab W := ht0.mono hG
      go_simp
      refine (hnlimit _ hT).mono ?_
      rintro r w1 ⟨rfl, hb1⟩
      exact hK _ _ (by rintro d ⟨⟩; rfl) hb1
    · intro a W hG hk K hK
      have h32 : a.tmps.getD 32 undef = .string (ByteArray.mk #[103, 114, 111, 117, 112, 115] ++ sgroups ++ ByteArray.mk #[10, 119, 105, 110, 100, 111, 119] ++ ssize ++ sslide ++ ByteArray.mk #[10, 102, 111, 108, 100, 32] ++ sFOLD ++ ByteArray.mk #[10, 108, 111, 111, 112]) := hk 32 (List.mem_of_elem_eq_true (by kernel_rfl))
      have h36 : a.tmps.getD 36 undef = .string slimit := hk 36 (List.mem_of_elem_eq_true (by kernel_rfl))
      clear hk
      simp only [Array.getD_eq_getD_getElem?] at h32 h36 ⊢
      go_simp
      exact hK _ _ (by rintro d ⟨⟩; rfl) (Below.refl _ _)
    · intro a W hG hk K hK
      have h4 : a.tmps.getD 4 undef = .func (.func 54) #[] #[] := hk 4 (List.mem_of_elem_eq_true (by kernel_rfl))
      clear hk
      simp only [Array.getD_eq_getD_getElem?] at h4 ⊢
      go_simp
      exact hK _ _ (by rintro d ⟨⟩; rfl) (Below.refl _ _)
    · intro a W hG hk K hK
      have h1 : a.tmps.getD 1 undef = .pointer (some ⟨w.heap.size, 0, none⟩) := hk 1 (List.mem_of_elem_eq_true (by kernel_rfl))
      clear hk
      simp only [Array.getD_eq_getD_getElem?] at h1 ⊢
      go_simp
      exact hK _ _ (by rintro d ⟨⟩; rfl) (Below.refl _ _)
    · intro a W hG hk K hK
      have h39 : a.tmps.getD 39 undef = .pointer (some ⟨w.heap.size, 4, none⟩) := hk 39 (List.mem_of_elem_eq_true (by kernel_rfl))
      clear hk
      have hc : W.cell? ⟨w.heap.size, 4, none⟩ = some (.int .i64 j.fuel) := ((bcell hG).1 _ _ hz0).trans k4
      simp only [Array.getD_eq_getD_getElem?] at h39 ⊢
      go_simp
      exact hK _ _ (by rintro d ⟨⟩; rfl) (Below.refl _ _)
    · intro a W hG hk K hK
      have h38 : a.tmps.getD 38 undef = .func (.func 54) #[] #[] := hk 38 (List.mem_of_elem_eq_true (by kernel_rfl))
      have h40 : a.tmps.getD 40 undef = .int .i64 j.fuel := hk 40 (List.mem_of_elem_eq_true (by kernel_rfl))
      clear hk
      simp only [Array.getD_eq_getD_getElem?] at h38 h40 ⊢
      have hT : Tab W := ht0.mono hG
      go_simp
      refine (hnfuel _ hT).mono ?_
      rintro r w1 ⟨rfl, hb1⟩
      exact hK _ _ (by rintro d ⟨⟩; rfl) hb1
    · intro a W hG hk K hK
      have h37 : a.tmps.getD 37 undef = .string (ByteArray.mk #[103, 114, 111, 117, 112, 115] ++ sgroups ++ ByteArray.mk #[10, 119, 105, 110, 100, 111, 119] ++ ssize ++ sslide ++ ByteArray.mk #[10, 102, 111, 108, 100, 32] ++ sFOLD ++ ByteArray.mk #[10, 108, 111, 111, 112] ++ slimit) := hk 37 (List.mem_of_elem_eq_true (by kernel_rfl))
      have h41 : a.tmps.getD 41 undef = .string sfuel := hk 41 (List.mem_of_elem_eq_true (by kernel_rfl))
      clear hk
      simp only [Array.getD_eq_getD_getElem?] at h37 h41 ⊢
      go_simp
      exact hK _ _ (by rintro d ⟨⟩; rfl) (Below.refl _ _)
    · intro a W hG hk K hK
      have h42 : a.tmps.getD 42 undef = .string (ByteArray.mk #[103, 114, 111, 117, 112, 115] ++ sgroups ++ ByteArray.mk #[10, 119, 105, 110, 100, 111, 119] ++ ssize ++ sslide ++ ByteArray.mk #[10, 102, 111, 108, 100, 32] ++ sFOLD ++ ByteArray.mk #[10, 108, 111, 111, 112] ++ slimit ++ sfuel) := hk 42 (List.mem_of_elem_eq_true (by kernel_rfl))
      clear hk
      simp only [Array.getD_eq_getD_getElem?] at h42 ⊢
      go_simp
      exact hK _ _ (by rintro d ⟨⟩; rfl) (Below.refl _ _)
    · intro a W hG hk K hK
      have h4 : a.tmps.getD 4 undef = .func (.func 54) #[] #[] := hk 4 (List.mem_of_elem_eq_true (by kernel_rfl))
      clear hk
      simp only [Array.getD_eq_getD_getElem?] at h4 ⊢
      go_simp
      exact hK _ _ (by rintro d ⟨⟩; rfl) (Below.refl _ _)
    · intro a W hG hk K hK
      have h1 : a.tmps.getD 1 undef = .pointer (some ⟨w.heap.size, 0, none⟩) := hk 1 (List.mem_of_elem_eq_true (by kernel_rfl))
      clear hk
      simp only [Array.getD_eq_getD_getElem?] at h1 ⊢
      go_simp
      exact hK _ _ (by rintro d ⟨⟩; rfl) (Below.refl _ _)
    · intro a W hG hk K hK
      have h45 : a.tmps.getD 45 undef = .pointer (some ⟨w.heap.size, 6, none⟩) := hk 45 (List.mem_of_elem_eq_true (by kernel_rfl))
      clear hk
      have hc : W.cell? ⟨w.heap.size, 6, none⟩ = some (.int .i64 j.delay) := ((bcell hG).1 _ _ hz0).trans k6
      simp only [Array.getD_eq_getD_getElem?] at h45 ⊢
      go_simp
      exact hK _ _ (by rintro d ⟨⟩; rfl) (Below.refl _ _)
    · intro a W hG hk K hK
      have h44 : a.tmps.getD 44 undef = .func (.func 54) #[] #[] := hk 44 (List.mem_of_elem_eq_true (by kernel_rfl))
      have h46 : a.tmps.getD 46 undef = .int .i64 j.delay := hk 46 (List.mem_of_elem_eq_true (by kernel_rfl))
      clear hk
      simp only [Array.getD_eq_getD_getElem?] at h44 h46 ⊢
      have hT : Tab W := ht0.mono hG
      go_simp
      refine (hndelay _ hT).mono ?_
      rintro r w1 ⟨rfl, hb1⟩
      exact hK _ _ (by rintro d ⟨⟩; rfl) hb1
    · intro a W hG hk K hK
      have h43 : a.tmps.getD 43 undef = .string (ByteArray.mk #[103, 114, 111, 117, 112, 115] ++ sgroups ++ ByteArray.mk #[10, 119, 105, 110, 100, 111, 119] ++ ssize ++ sslide ++ ByteArray.mk #[10, 102, 111, 108, 100, 32] ++ sFOLD ++ ByteArray.mk #[10, 108, 111, 111, 112] ++ slimit ++ sfuel ++ ByteArray.mk #[10, 100, 101, 108, 97, 121]) := hk 43 (List.mem_of_elem_eq_true (by kernel_rfl))
      have h47 : a.tmps.getD 47 undef = .string sdelay := hk 47 (List.mem_of_elem_eq_true (by kernel_rfl))
      clear hk
      simp only [Array.getD_eq_getD_getElem?] at h43 h47 ⊢
      go_simp
      exact hK _ _ (by rintro d ⟨⟩; rfl) (Below.refl _ _)
    · intro a W hG hk K hK
      have h48 : a.tmps.getD 48 undef = .string (ByteArray.mk #[103, 114, 111, 117, 112, 115] ++ sgroups ++ ByteArray.mk #[10, 119, 105, 110, 100, 111, 119] ++ ssize ++ sslide ++ ByteArray.mk #[10, 102, 111, 108, 100, 32] ++ sFOLD ++ ByteArray.mk #[10, 108, 111, 111, 112] ++ slimit ++ sfuel ++ ByteArray.mk #[10, 100, 101, 108, 97, 121] ++ sdelay) := hk 48 (List.mem_of_elem_eq_true (by kernel_rfl))
      clear hk
      simp only [Array.getD_eq_getD_getElem?] at h48 ⊢
      go_simp
      exact hK _ _ (by rintro d ⟨⟩; rfl) (Below.refl _ _)
    · intro a W hG hk K hK
      have h4 : a.tmps.getD 4 undef = .func (.func 54) #[] #[] := hk 4 (List.mem_of_elem_eq_true (by kernel_rfl))
      clear hk
      simp only [Array.getD_eq_getD_getElem?] at h4 ⊢
      go_simp
      exact hK _ _ (by rintro d ⟨⟩; rfl) (Below.refl _ _)
    · intro a W hG hk K hK
      have h1 : a.tmps.getD 1 undef = .pointer (some ⟨w.heap.size, 0, none⟩) := hk 1 (List.mem_of_elem_eq_true (by kernel_rfl))
      clear hk
      simp only [Array.getD_eq_getD_getElem?] at h1 ⊢
      go_simp
      exact hK _ _ (by rintro d ⟨⟩; rfl) (Below.refl _ _)
    · intro a W hG hk K hK
      have h51 : a.tmps.getD 51 undef = .pointer (some ⟨w.heap.size, 7, none⟩) := hk 51 (List.mem_of_elem_eq_true (by kernel_rfl))
      clear hk
      have hc : W.cell? ⟨w.heap.size, 7, none⟩ = some (.int .i64 j.idle) := ((bcell hG).1 _ _ hz0).trans k7
      simp only [Array.getD_eq_getD_getElem?] at h51 ⊢
      go_simp
      exact hK _ _ (by rintro d ⟨⟩; rfl) (Below.refl _ _)
    · intro a W hG hk K hK
      have h50 : a.tmps.getD 50 undef = .func (.func 54) #[] #[] := hk 50 (List.mem_of_elem_eq_true (by kernel_rfl))
      have h52 : a.tmps.getD 52 undef = .int .i64 j.idle := hk 52 (List.mem_of_elem_eq_true (by kernel_rfl))
      clear hk
      simp only [Array.getD_eq_getD_getElem?] at h50 h52 ⊢
      have hT : Tab W := ht0.mono hG
      go_simp
      refine (hnidle _ hT).mono ?_
      rintro r w1 ⟨rfl, hb1⟩
      exact hK _ _ (by rintro d ⟨⟩; rfl) hb1
    · intro a W hG hk K hK
      have h49 : a.tmps.getD 49 undef = .string (ByteArray.mk #[103, 114, 111, 117, 112, 115] ++ sgroups ++ ByteArray.mk #[10, 119, 105, 110, 100, 111, 119] ++ ssize ++ sslide ++ ByteArray.mk #[10, 102, 111, 108, 100, 32] ++ sFOLD ++ ByteArray.mk #[10, 108, 111, 111, 112] ++ slimit ++ sfuel ++ ByteArray.mk #[10, 100, 101, 108, 97, 121] ++ sdelay ++ ByteArray.mk #[10, 105, 100, 108, 101]) := hk 49 (List.mem_of_elem_eq_true (by kernel_rfl))
      have h53 : a.tmps.getD 53 undef = .string sidle := hk 53 (List.mem_of_elem_eq_true (by kernel_rfl))
      clear hk
      simp only [Array.getD_eq_getD_getElem?] at h49 h53 ⊢
      go_simp
      exact hK _ _ (by rintro d ⟨⟩; rfl) (Below.refl _ _)
    · intro a W hG hk K hK
      have h54 : a.tmps.getD 54 undef = .string (ByteArray.mk #[103, 114, 111, 117, 112, 115] ++ sgroups ++ ByteArray.mk #[10, 119, 105, 110, 100, 111, 119] ++ ssize ++ sslide ++ ByteArray.mk #[10, 102, 111, 108, 100, 32] ++ sFOLD ++ ByteArray.mk #[10, 108, 111, 111, 112] ++ slimit ++ sfuel ++ ByteArray.mk #[10, 100, 101, 108, 97, 121] ++ sdelay ++ ByteArray.mk #[10, 105, 100, 108, 101] ++ sidle) := hk 54 (List.mem_of_elem_eq_true (by kernel_rfl))
      clear hk
      simp only [Array.getD_eq_getD_getElem?] at h54 ⊢
      go_simp
      exact hK _ _ (by rintro d ⟨⟩; rfl) (Below.refl _ _)
    · intro a W hG hk K hK
      have h55 : a.tmps.getD 55 undef = .string (ByteArray.mk #[103, 114, 111, 117, 112, 115] ++ sgroups ++ ByteArray.mk #[10, 119, 105, 110, 100, 111, 119] ++ ssize ++ sslide ++ ByteArray.mk #[10, 102, 111, 108, 100, 32] ++ sFOLD ++ ByteArray.mk #[10, 108, 111, 111, 112] ++ slimit ++ sfuel ++ ByteArray.mk #[10, 100, 101, 108, 97, 121] ++ sdelay ++ ByteArray.mk #[10, 105, 100, 108, 101] ++ sidle ++ ByteArray.mk #[10]) := hk 55 (List.mem_of_elem_eq_true (by kernel_rfl))
      clear hk
      simp only [Array.getD_eq_getD_getElem?] at h55 ⊢
      go_simp
      exact hK _ _ (by rintro d ⟨⟩; rfl) (Below.refl _ _)
    · intro a W hG hk K hK
      clear hk
      go_simp
      exact hK _ _ (by rintro d ⟨⟩; rfl) (Below.refl _ _)
  · intro a W hG hd hs hold hnew
    have hb := below_tr hbw hG
    have g2 := hnew 2 48 (by kernel_rfl)
    have g3 := hnew 3 49 (by kernel_rfl)
    obtain ⟨tm, df⟩ := a
    have g2 : tm.getD 2 undef = .string (ByteArray.mk #[103, 114, 111, 117, 112, 115] ++ sgroups ++ ByteArray.mk #[10, 119, 105, 110, 100, 111, 119] ++ ssize ++ sslide ++ ByteArray.mk #[10, 102, 111, 108, 100, 32] ++ sFOLD ++ ByteArray.mk #[10, 108, 111, 111, 112] ++ slimit ++ sfuel ++ ByteArray.mk #[10, 100, 101, 108, 97, 121] ++ sdelay ++ ByteArray.mk #[10, 105, 100, 108, 101] ++ sidle ++ ByteArray.mk #[10]) := g2
    have g3 : tm.getD 3 undef = .int .i64 0 := g3
    have hd : df = [] := hd
    subst hd
    go_wp2
    go_ret2
    exact ⟨by rw [show ({ tmps := tm, defers := [] } : Act).tmps = tm from rfl, g2, g3], hb⟩
end Go.Proofs.YtljbclkbmjjmdaaGreatDoor
