/- The walks of the questions whether a job may be. -/
import Derived.Test.YtljbclkbmjjmdaaGreatDoorS1
namespace Go.Proofs.YtljbclkbmjjmdaaGreatDoor
open Go.RowKit Go.Shelf
theorem job_impl (j : Jb) (w : World) : Calls Tryz.prog 34 #[.agg #[.int .i64 j.groups, .int .i64 j.size, .int .i64 j.slide, .int .i64 j.fold, .int .i64 j.fuel, .int .i64 j.limit, .int .i64 j.delay, .int .i64 j.idle]] w
    fun r w' => r = .returned (.bool (jobB j)) ∧ Below w.heap.size w w' := by
  cases hw : winB j.size j.slide <;> have HW := Lib.hid hw <;> clear hw <;> cases hf : foldB j.fold <;> have HF := Lib.hid hf <;> clear hf
  all_goals
    go_enter Tryz.func34, Tryz.ntmps34
    go_wp2_with (first | (go_at_call 60; refine (win_impl _ _ _).mono ?_; rintro r w1 ⟨rfl, rfl⟩; rw [HW.out]) | (go_at_call 61; refine (fold_impl _ _).mono ?_; rintro r w1 ⟨rfl, rfl⟩; rw [HF.out]))
    all_goals go_ret
    all_goals exact ⟨ret_bool (by unfold jobB; rw [HW.out, HF.out, Bool.eq_iff_iff]; simp; try omega), by (repeat (first | exact Below.refl _ _ | assumption | refine ext_alloc ?_ _ | refine below_drewN ?_ _ | refine ext_drew ?_ | (refine below_tr ?_ (by assumption))))⟩

theorem job09 (j : Jb) (w : World) : Calls Tryz.prog 108 #[.agg #[.int .i64 j.groups, .int .i64 j.size, .int .i64 j.slide, .int .i64 j.fold, .int .i64 j.fuel, .int .i64 j.limit, .int .i64 j.delay, .int .i64 j.idle]] w
    fun r w' => r = .returned (.bool (winB j.size j.slide && foldB j.fold)) ∧ Below w.heap.size w w' := by
  cases hw : winB j.size j.slide <;> have HW := Lib.hid hw <;> clear hw
  all_goals
    go_enter Tryz.func108, Tryz.ntmps108
    go_wp2_with (first | (go_at_call 122; refine (win_ref _ _ _).mono ?_; rintro r w1 ⟨rfl, rfl⟩; rw [HW.out]) | (go_at_call 123; refine (fold_ref _ _).mono ?_; rintro r w1 ⟨rfl, rfl⟩))
    all_goals go_ret
    all_goals exact ⟨ret_bool (by simp), by (repeat (first | exact Below.refl _ _ | assumption | refine ext_alloc ?_ _ | refine below_drewN ?_ _ | refine ext_drew ?_ | (refine below_tr ?_ (by assumption))))⟩
theorem job_ref (j : Jb) (w : World) : Calls Tryz.prog 84 #[.agg #[.int .i64 j.groups, .int .i64 j.size, .int .i64 j.slide, .int .i64 j.fold, .int .i64 j.fuel, .int .i64 j.limit, .int .i64 j.delay, .int .i64 j.idle]] w
    fun r w' => r = .returned (.bool (jobB j)) ∧ Below w.heap.size w w' := by
  have hk : jobB j = (decide (1 ≤ j.groups ∧ j.groups ≤ 32) && (winB j.size j.slide && foldB j.fold) && decide (0 ≤ j.fuel ∧ j.fuel ≤ 40 ∧ 0 ≤ j.limit ∧ 0 ≤ j.delay ∧ j.delay ≤ 1099511627776 ∧ 0 ≤ j.idle ∧ j.idle ≤ 1048576)) := by
    unfold jobB; simp only [Bool.and_assoc]
  have Hk := Lib.hid hk; clear hk
  cases hw : (winB j.size j.slide && foldB j.fold) <;> have HW := Lib.hid hw <;> clear hw
  all_goals
    go_enter Tryz.func84, Tryz.ntmps84
    go_wp2_with (go_at_call 108; refine (job09 _ _).mono ?_; rintro r w1 ⟨rfl, hb1⟩; obtain ⟨hc1, hf1⟩ := bcell hb1; rw [HW.out])
    all_goals go_ret
    all_goals exact ⟨ret_bool (by rw [Hk.out, HW.out, Bool.eq_iff_iff]; simp; try omega), by (repeat (first | exact Below.refl _ _ | assumption | refine ext_alloc ?_ _ | refine below_drewN ?_ _ | refine ext_drew ?_ | (refine below_tr ?_ (by assumption))))⟩
end Go.Proofs.YtljbclkbmjjmdaaGreatDoor
