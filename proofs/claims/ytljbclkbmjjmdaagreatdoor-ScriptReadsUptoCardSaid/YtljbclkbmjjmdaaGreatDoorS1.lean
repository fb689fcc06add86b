/- The walks of the small questions: keys, events, letters, windows, folds, jobs. -/
import Derived.Test.YtljbclkbmjjmdaaGreatDoorM
namespace Go.Proofs.YtljbclkbmjjmdaaGreatDoor
open Go.RowKit Go.Shelf

theorem key_impl (s : ByteArray) (w : World) : Calls Tryz.prog 93 #[.string s] w fun e w' => e = .returned (.bool (keyB s)) ∧ w = w' := by
  by_cases h0 : s.size = 0
  · have hz : s.toList = [] := (tl_nil s).2 h0
    have hk : keyB s = false := by unfold keyB; simp; omega
    have Hk := Lib.hid hk; clear hk h0
    go_enter Tryz.func93, Tryz.ntmps93
    go_wp2
    go_ret
    exact ⟨ret_bool Hk.out.symm, rfl⟩
  · have hz : s.toList.isEmpty = false := by rw [tl_isEmpty]; simp [h0]
    have hk : decide ((s.size : Int) ≤ 16) = keyB s := by unfold keyB; rw [Bool.eq_iff_iff]; simp; omega
    have Hk := Lib.hid hk; clear hk h0
    go_enter Tryz.func93, Tryz.ntmps93
    go_wp2
    all_goals go_ret
    all_goals exact ⟨ret_bool (by simpa [hz] using Hk.out), rfl⟩
theorem key_ref (s : ByteArray) (w : World) (hs : WfS s) : Calls Tryz.prog 109 #[.string s] w fun e w' => e = .returned (.bool (keyB s)) ∧ w = w' := by
  unfold WfS at hs
  go_enter Tryz.func109, Tryz.ntmps109
  go_wp2
  all_goals (go_ret; refine ⟨ret_bool ?_, rfl⟩; unfold keyB; rw [Bool.eq_iff_iff]; simp_all; try omega)
theorem fold_impl (k : Int) (w : World) : Calls Tryz.prog 61 #[.int .i64 k] w fun e w' => e = .returned (.bool (foldB k)) ∧ w = w' := by
  go_enter Tryz.func61, Tryz.ntmps61
  go_wp2
  all_goals (go_ret; refine ⟨ret_bool ?_, rfl⟩; unfold foldB; rw [Bool.eq_iff_iff]; simp; try omega)
theorem win_impl (a b : Int) (w : World) : Calls Tryz.prog 60 #[.int .i64 a, .int .i64 b] w fun e w' => e = .returned (.bool (winB a b)) ∧ w = w' := by
  go_enter Tryz.func60, Tryz.ntmps60
  go_wp2
  all_goals (go_ret; refine ⟨ret_bool ?_, rfl⟩; unfold winB; rw [Bool.eq_iff_iff]; simp; try omega)

theorem event_impl (e : Ev) (w : World) : Calls Tryz.prog 65 #[.agg #[.string e.key, .int .i64 e.at_, .int .i64 e.val]] w fun r w' => r = .returned (.bool (eventB e)) ∧ Below w.heap.size w w' := by
  have hk : eventB e = (keyB e.key && decide (0 ≤ e.at_) && decide (e.at_ < 1099511627776)) := by
    unfold eventB keyB; rw [Bool.eq_iff_iff]; simp; omega
  have Hk := Lib.hid hk; clear hk
  cases hb : keyB e.key <;> have HB := Lib.hid hb <;> clear hb
  all_goals
    go_enter Tryz.func65, Tryz.ntmps65
    go_wp2_with (go_at_call 93; refine (key_impl _ _).mono ?_; rintro r w1 ⟨rfl, rfl⟩; rw [HB.out])
    all_goals go_ret
    all_goals exact ⟨ret_bool (by rw [Hk.out, HB.out, Bool.eq_iff_iff]; simp; try omega), by (repeat (first | exact Below.refl _ _ | assumption | refine ext_alloc ?_ _ | refine below_drewN ?_ _ | refine ext_drew ?_ | (refine below_tr ?_ (by assumption))))⟩
theorem event_ref (e : Ev) (he : e.wf) (w : World) : Calls Tryz.prog 88 #[.agg #[.string e.key, .int .i64 e.at_, .int .i64 e.val]] w fun r w' => r = .returned (.bool (eventB e)) ∧ Below w.heap.size w w' := by
  have hk : eventB e = (keyB e.key && decide (0 ≤ e.at_) && decide (e.at_ < 1099511627776)) := by
    unfold eventB keyB; rw [Bool.eq_iff_iff]; simp; omega
  have Hk := Lib.hid hk; clear hk
  cases hb : keyB e.key <;> have HB := Lib.hid hb <;> clear hb
  all_goals
    go_enter Tryz.func88, Tryz.ntmps88
    go_wp2_with (go_at_call 109; refine (key_ref _ _ he.1).mono ?_; rintro r w1 ⟨rfl, rfl⟩; rw [HB.out])
    all_goals go_ret
    all_goals exact ⟨ret_bool (by rw [Hk.out, HB.out, Bool.eq_iff_iff]; simp; try omega), by (repeat (first | exact Below.refl _ _ | assumption | refine ext_alloc ?_ _ | refine below_drewN ?_ _ | refine ext_drew ?_ | (refine below_tr ?_ (by assumption))))⟩
theorem letters_no {s : ByteArray} (k : Nat) (hk : k < s.size) (h : ¬ (97 ≤ s[k].toNat ∧ s[k].toNat ≤ 122)) : lettersB s = false := by
  unfold lettersB
  rw [List.all_eq_false]
  exact ⟨s[k], by rw [Array.mem_toList_iff]; exact Array.getElem_mem (by exact hk), by simpa using h⟩
theorem letters_yes {s : ByteArray} (h : ∀ i (hi : i < s.size), 97 ≤ s[i].toNat ∧ s[i].toNat ≤ 122) : lettersB s = true := by
  unfold lettersB
  rw [List.all_eq_true]
  intro x hx
  rw [Array.mem_toList_iff] at hx
  obtain ⟨i, hi, rfl⟩ := Array.getElem_of_mem hx
  exact decide_eq_true (h i hi)
theorem letters_impl (s : ByteArray) (hs : WfS s) (w : World) : Calls Tryz.prog 38 #[.string s] w fun r w' => r = .returned (.bool (lettersB s)) ∧ w = w' := by
  unfold WfS at hs
  go_enter Tryz.func38, Tryz.ntmps38
  go_wp2
  go_loop [3, 6] (fun v3 v6 => ∃ k : Nat, k ≤ s.size ∧ v6 = .int .i64 k ∧ Hid (∀ i (hi : i < s.size), i < k → 97 ≤ s[i].toNat ∧ s[i].toNat ≤ 122)) (fun _ i => s.size - (intOf i).toNat)
  case atStart => exact ⟨0, Nat.zero_le _, rfl, fun i hi h => by omega⟩
  case round =>
    obtain ⟨k, hk, rfl, ha⟩ := hrel
    by_cases hlt : k < s.size
    · by_cases hl : 97 ≤ s[k].toNat
      · by_cases hl2 : s[k].toNat ≤ 122
        · go_wp2
          go_round
          case rel => exact ⟨k + 1, by omega, by go_num, fun i hi h => by
            by_cases e : i = k
            · subst e; exact ⟨hl, hl2⟩
            · exact ha.out i hi (by omega)⟩
          case measure => simp [intOf]; omega
        · go_wp2
          go_ret
          exact ⟨ret_bool (letters_no k hlt (by omega)).symm, rfl⟩
      · go_wp2
        go_ret
        exact ⟨ret_bool (letters_no k hlt (by omega)).symm, rfl⟩
    · go_wp2
      go_ret
      exact ⟨ret_bool (letters_yes fun i hi => ha.out i hi (by omega)).symm, rfl⟩
theorem letters_ref (s : ByteArray) (hs : WfS s) (w : World) : Calls Tryz.prog 87 #[.string s] w fun r w' => r = .returned (.bool (lettersB s)) ∧ w = w' := by
  unfold WfS at hs
  go_enter Tryz.func87, Tryz.ntmps87
  go_wp2
  go_loop [3] (fun v6 => ∃ k : Nat, k ≤ s.size ∧ v6 = .int .i64 k ∧ Hid (∀ i (hi : i < s.size), i < k → 97 ≤ s[i].toNat ∧ s[i].toNat ≤ 122)) (fun i => s.size - (intOf i).toNat)
  case atStart => exact ⟨0, Nat.zero_le _, rfl, fun i hi h => by omega⟩
  case round =>
    obtain ⟨k, hk, rfl, ha⟩ := hrel
    by_cases hlt : k < s.size
    · by_cases hl : 97 ≤ s[k].toNat
      · by_cases hl2 : s[k].toNat ≤ 122
        · go_wp2
          go_round
          case rel => exact ⟨k + 1, by omega, by go_num, fun i hi h => by
            by_cases e : i = k
            · subst e; exact ⟨hl, hl2⟩
            · exact ha.out i hi (by omega)⟩
          case measure => simp [intOf]; omega
        · go_wp2
          go_ret
          exact ⟨ret_bool (letters_no k hlt (by omega)).symm, rfl⟩
      · go_wp2
        go_ret
        exact ⟨ret_bool (letters_no k hlt (by omega)).symm, rfl⟩
    · go_wp2
      go_ret
      exact ⟨ret_bool (letters_yes fun i hi => ha.out i hi (by omega)).symm, rfl⟩

theorem fold_ref (k : Int) (w : World) : Calls Tryz.prog 123 #[.int .i64 k] w fun e w' => e = .returned (.bool (foldB k)) ∧ w = w' := by
  go_enter Tryz.func123, Tryz.ntmps123
  go_wp2
  all_goals (go_ret; refine ⟨ret_bool ?_, rfl⟩; unfold foldB; rw [Bool.eq_iff_iff]; simp; try omega)
theorem win_ref (a b : Int) (w : World) : Calls Tryz.prog 122 #[.int .i64 a, .int .i64 b] w fun e w' => e = .returned (.bool (winB a b)) ∧ w = w' := by
  go_enter Tryz.func122, Tryz.ntmps122
  go_wp2
  all_goals (go_ret; refine ⟨ret_bool ?_, rfl⟩; unfold winB; rw [Bool.eq_iff_iff]; simp; try omega)
end Go.Proofs.YtljbclkbmjjmdaaGreatDoor
