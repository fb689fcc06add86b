/- The walks of whether inputs may be. -/
import Derived.Test.YtljbclkbmjjmdaaGreatDoorS1
import Derived.Test.YtljbclkbmjjmdaaGreatDoorS4
namespace Go.Proofs.YtljbclkbmjjmdaaGreatDoor
open Go.RowKit Go.Shelf
theorem any_not_all {α : Type} (p : α → Bool) (xs : List α) : (xs.any fun x => !p x) = !(xs.all p) := by
  rw [List.all_eq_not_any_not, Bool.not_not]
theorem pred_event (w : World) : FnPred Tryz.prog w 64 #[] rEv (fun cs => .agg cs.toArray) (fun e => !eventB e) := by
  refine ⟨enters_of Tryz.func64 (by kernel_rfl) rfl, ?_⟩
  rintro W e cs hW ⟨rfl, he⟩
  show Calls Tryz.prog 64 #[.agg #[.string e.key, .int .i64 e.at_, .int .i64 e.val]] W _
  clear hW
  go_enter Tryz.func64, Tryz.ntmps64
  go_wp2_with (go_at_call 65; refine (event_impl e _).mono ?_; rintro r w1 ⟨rfl, hb1⟩)
  go_ret
  exact ⟨rfl, by (repeat (first | exact Below.refl _ _ | assumption | refine ext_alloc ?_ _ | refine below_drewN ?_ _ | refine ext_drew ?_ | (refine below_tr ?_ (by assumption))))⟩
theorem pred_letters (w : World) : FnPred Tryz.prog w 37 #[] rEv (fun cs => .agg cs.toArray) (fun e => !lettersB e.key) := by
  refine ⟨enters_of Tryz.func37 (by kernel_rfl) rfl, ?_⟩
  rintro W e cs hW ⟨rfl, he⟩
  show Calls Tryz.prog 37 #[.agg #[.string e.key, .int .i64 e.at_, .int .i64 e.val]] W _
  clear hW
  go_enter Tryz.func37, Tryz.ntmps37
  go_wp2_with (go_at_call 38; refine (letters_impl _ he.1 _).mono ?_; rintro r w1 ⟨rfl, rfl⟩)
  go_ret
  exact ⟨rfl, by (repeat (first | exact Below.refl _ _ | assumption | refine ext_alloc ?_ _ | refine below_drewN ?_ _ | refine ext_drew ?_ | (refine below_tr ?_ (by assumption))))⟩
theorem pred_source (w : World) : FnPred Tryz.prog w 63 #[] rIn (fun cs => cs.headD undef) (fun s => !inputB s) := by
  refine ⟨enters_of Tryz.func63 (by kernel_rfl) rfl, ?_⟩
  rintro W s cs hW ⟨v, rfl, hs⟩
  show Calls Tryz.prog 63 #[v] W _
  clear hW
  have HC := Lib.hid (any_event rEv rEv.mono (fun e => !eventB e) v s _ _ W hs (pred_event W))
  obtain ⟨A, c, rfl, hs, hc, hm⟩ := hs
  clear hs
  have hk : inputB s = (decide (s.length ≤ 200) && !(s.any fun e => !eventB e)) := by unfold inputB; rw [any_not_all, Bool.not_not]
  have HK := Lib.hid hk; clear hk
  by_cases hl : s.length ≤ 200
  · have hd : decide ((200 : Int) < (s.length : Int)) = false := by simp; omega
    go_enter Tryz.func63, Tryz.ntmps63
    go_wp2_with (go_at_call 36; refine HC.out.mono ?_; rintro r w1 ⟨rfl, hb1⟩)
    go_ret
    exact ⟨ret_bool (by rw [HK.out]; simp [hl]), by (repeat (first | exact Below.refl _ _ | assumption | refine ext_alloc ?_ _ | refine below_drewN ?_ _ | refine ext_drew ?_ | (refine below_tr ?_ (by assumption))))⟩
  · have hd : decide ((200 : Int) < (s.length : Int)) = true := by simp; omega
    go_enter Tryz.func63, Tryz.ntmps63
    go_wp2_with fail
    go_ret
    exact ⟨ret_bool (by rw [HK.out]; simp [hl]), by (repeat (first | exact Below.refl _ _ | assumption | refine ext_alloc ?_ _ | refine below_drewN ?_ _ | refine ext_drew ?_ | (refine below_tr ?_ (by assumption))))⟩
theorem inputs_impl (v : Value) (l : List (List Ev)) (w : World) (hs : Sl 1 rIn w v l) : Calls Tryz.prog 35 #[v] w fun r w' => r = .returned (.bool (inputsB l)) ∧ Below w.heap.size w w' := by
  have HC := Lib.hid (any_source rIn rIn.mono (fun e => !inputB e) v l _ _ w hs (pred_source w))
  obtain ⟨A, c, rfl, hs, hc, hm⟩ := hs
  clear hs
  have hk : inputsB l = (decide (1 ≤ l.length ∧ l.length ≤ 4) && !(l.any fun e => !inputB e)) := by unfold inputsB; rw [any_not_all, Bool.not_not]
  have HK := Lib.hid hk; clear hk
  by_cases hl : 1 ≤ l.length
  · by_cases hl2 : l.length ≤ 4
    · go_enter Tryz.func35, Tryz.ntmps35
      go_wp2_with (go_at_call 62; refine HC.out.mono ?_; rintro r w1 ⟨rfl, hb1⟩)
      go_ret
      exact ⟨ret_bool (by rw [HK.out]; simp [hl, hl2]), by (repeat (first | exact Below.refl _ _ | assumption | refine ext_alloc ?_ _ | refine below_drewN ?_ _ | refine ext_drew ?_ | (refine below_tr ?_ (by assumption))))⟩
    · go_enter Tryz.func35, Tryz.ntmps35
      go_wp2_with fail
      go_ret
      exact ⟨ret_bool (by rw [HK.out]; simp [hl2]), by (repeat (first | exact Below.refl _ _ | assumption | refine ext_alloc ?_ _ | refine below_drewN ?_ _ | refine ext_drew ?_ | (refine below_tr ?_ (by assumption))))⟩
  · go_enter Tryz.func35, Tryz.ntmps35
    go_wp2_with fail
    go_ret
    exact ⟨ret_bool (by rw [HK.out]; simp [hl]), by (repeat (first | exact Below.refl _ _ | assumption | refine ext_alloc ?_ _ | refine below_drewN ?_ _ | refine ext_drew ?_ | (refine below_tr ?_ (by assumption))))⟩
theorem all_no {α : Type} {p : α → Bool} {xs : List α} (k : Nat) (hk : k < xs.length) (h : p xs[k] = false) : xs.all p = false := by
  rw [List.all_eq_false]; exact ⟨xs[k], List.getElem_mem hk, by simpa using h⟩
theorem all_yes {α : Type} {p : α → Bool} {xs : List α} (h : ∀ i (hi : i < xs.length), p xs[i] = true) : xs.all p = true := by
  rw [List.all_eq_true]
  intro x hx
  obtain ⟨i, hi, rfl⟩ := List.getElem_of_mem hx
  exact h i hi
end Go.Proofs.YtljbclkbmjjmdaaGreatDoor
