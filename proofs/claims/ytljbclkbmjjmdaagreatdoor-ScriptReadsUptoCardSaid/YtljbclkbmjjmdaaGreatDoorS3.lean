/- The walks of an act's word and of whether an act may be. -/
import Derived.Test.YtljbclkbmjjmdaaGreatDoorS1
namespace Go.Proofs.YtljbclkbmjjmdaaGreatDoor
open Go.RowKit Go.Shelf
theorem wordL_out {n : Int} (h : ¬ (0 ≤ n ∧ n ≤ 9)) : wordL n = [] ∧ needs n = 0 := by
  unfold wordL needs
  constructor <;> (repeat (rw [if_neg (by omega)]))
theorem word_impl (n : Int) (w : World) : Calls Tryz.prog 47 #[.int .i64 n] w fun e w' => e = .returned (.tuple #[.string ⟨(wordL n).toArray⟩, .int .i64 (needs n)]) ∧ w = w' := by
  rcases what_cases n with h | h | h | h | h | h | h | h | h | h | h
  rotate_right
  · obtain ⟨h1, h2⟩ := wordL_out h
    rw [h1, h2]
    have g : ∀ k : Int, 0 ≤ k → k ≤ 9 → (n == k) = false := fun k a b => beq_eq_false_iff_ne.2 (by omega)
    have g0 := g 0 (by omega) (by omega); have g1 := g 1 (by omega) (by omega); have g2 := g 2 (by omega) (by omega); have g3 := g 3 (by omega) (by omega); have g4 := g 4 (by omega) (by omega)
    have g5 := g 5 (by omega) (by omega); have g6 := g 6 (by omega) (by omega); have g7 := g 7 (by omega) (by omega); have g8 := g 8 (by omega) (by omega); have g9 := g 9 (by omega) (by omega)
    clear g h h1 h2
    go_enter Tryz.func47, Tryz.ntmps47
    go_wp2
    go_ret2
    exact ⟨rfl, rfl⟩
  all_goals
    subst h
    go_enter Tryz.func47, Tryz.ntmps47
    go_wp2
    go_ret2
    exact ⟨rfl, rfl⟩
theorem word_ref (n : Int) (w : World) : Calls Tryz.prog 50 #[.int .i64 n] w fun e w' => e = .returned (.string ⟨(wordL n).toArray⟩) ∧ w = w' := by
  rcases what_cases n with h | h | h | h | h | h | h | h | h | h | h
  rotate_right
  · obtain ⟨h1, h2⟩ := wordL_out h
    rw [h1]
    have g : ∀ k : Int, 0 ≤ k → k ≤ 9 → (n == k) = false := fun k a b => beq_eq_false_iff_ne.2 (by omega)
    have g0 := g 0 (by omega) (by omega); have g1 := g 1 (by omega) (by omega); have g2 := g 2 (by omega) (by omega); have g3 := g 3 (by omega) (by omega); have g4 := g 4 (by omega) (by omega)
    have g5 := g 5 (by omega) (by omega); have g6 := g 6 (by omega) (by omega); have g7 := g 7 (by omega) (by omega); have g8 := g 8 (by omega) (by omega); have g9 := g 9 (by omega) (by omega)
    clear g h h1 h2
    go_enter Tryz.func50, Tryz.ntmps50
    go_wp2
    go_ret
    exact ⟨rfl, rfl⟩
  all_goals
    subst h
    go_enter Tryz.func50, Tryz.ntmps50
    go_wp2
    go_ret
    exact ⟨rfl, rfl⟩
theorem which_ref (n : Int) (w : World) : Calls Tryz.prog 51 #[.int .i64 n] w fun e w' => e = .returned (.bool (decide (needs n = 1))) ∧ w = w' := by
  have hk : decide (needs n = 1) = decide (1 ≤ n ∧ n ≤ 3 ∨ n = 7) := by
    rcases what_cases n with h | h | h | h | h | h | h | h | h | h | h
    rotate_right
    · rw [(wordL_out h).2, decide_eq_decide]; omega
    all_goals (subst h; rfl)
  rw [hk]; clear hk
  go_enter Tryz.func51, Tryz.ntmps51
  go_wp2
  all_goals (go_ret; refine ⟨ret_bool ?_, rfl⟩; (first | rfl | (rw [Bool.eq_iff_iff]; simp; done) | (rw [Bool.eq_iff_iff]; simp; omega) | (rw [Bool.eq_iff_iff]; omega)))
theorem who_ref (n : Int) (w : World) : Calls Tryz.prog 52 #[.int .i64 n] w fun e w' => e = .returned (.bool (decide (needs n = 2))) ∧ w = w' := by
  have hk : decide (needs n = 2) = decide (n = 5 ∨ n = 6 ∨ n = 9) := by
    rcases what_cases n with h | h | h | h | h | h | h | h | h | h | h
    rotate_right
    · rw [(wordL_out h).2, decide_eq_decide]; omega
    all_goals (subst h; rfl)
  rw [hk]; clear hk
  go_enter Tryz.func52, Tryz.ntmps52
  go_wp2
  all_goals (go_ret; refine ⟨ret_bool ?_, rfl⟩; (first | rfl | (rw [Bool.eq_iff_iff]; simp; done) | (rw [Bool.eq_iff_iff]; simp; omega) | (rw [Bool.eq_iff_iff]; omega)))
theorem small_impl (n : Int) (w : World) : Calls Tryz.prog 68 #[.int .i64 n] w fun e w' => e = .returned (.bool (decide (0 ≤ n ∧ n ≤ 1000000))) ∧ w = w' := by
  go_enter Tryz.func68, Tryz.ntmps68
  go_wp2
  all_goals (go_ret; refine ⟨ret_bool ?_, rfl⟩; (first | rfl | (rw [Bool.eq_iff_iff]; simp; done) | (rw [Bool.eq_iff_iff]; simp; omega) | (rw [Bool.eq_iff_iff]; omega)))

/-- The shapes of an act's kind. -/
theorem kinds (n : Int) : (wordL n ≠ [] ∧ 0 ≤ n ∧ n ≤ 9 ∧ (needs n = 0 ∨ needs n = 1 ∨ needs n = 2)) ∨ (wordL n = [] ∧ ¬ (0 ≤ n ∧ n ≤ 9)) := by
  rcases what_cases n with h | h | h | h | h | h | h | h | h | h | h
  rotate_right
  · exact .inr ⟨(wordL_out h).1, h⟩
  all_goals (subst h; exact .inl ⟨by decide, by decide, by decide, by decide⟩)
theorem toList_mk (l : List UInt8) : (ByteArray.mk l.toArray).toList = l := by rw [ByteArray.toList_eq]
theorem act_impl (a : Ac) (w : World) : Calls Tryz.prog 41 #[.agg #[.int .i64 a.what, .int .i64 a.who, .int .i64 a.which]] w fun r w' => r = .returned (.bool (actB a)) ∧ Below w.heap.size w w' := by
  rcases kinds a.what with ⟨hw, h0, h9, hn⟩ | ⟨hw, h⟩
  · have e1 : (wordL a.what).isEmpty = false := by simpa using hw
    rcases hn with hn | hn | hn
    · have hB : actB a = (decide (a.who = 0) && decide (a.which = 0)) := by unfold actB; rw [if_pos ⟨h0, h9⟩, hn]; simp
      have HB := Lib.hid hB; have HN := Lib.hid hn; clear hB hn hw
      go_enter Tryz.func41, Tryz.ntmps41
      go_wp2_with (first | (go_at_call 47; refine (word_impl _ _).mono ?_; rintro r w1 ⟨rfl, rfl⟩; rw [HN.out]) | (go_at_call 68; refine (small_impl _ _).mono ?_; rintro r w1 ⟨rfl, rfl⟩))
      all_goals go_ret
      all_goals exact ⟨ret_bool (by rw [HB.out, Bool.eq_iff_iff]; (try simp) <;> (try omega)), by (repeat (first | exact Below.refl _ _ | assumption | refine ext_alloc ?_ _ | refine below_drewN ?_ _ | refine ext_drew ?_ | (refine below_tr ?_ (by assumption))))⟩
    · have hB : actB a = (decide (0 ≤ a.which ∧ a.which ≤ 1000000) && decide (a.who = 0)) := by unfold actB; rw [if_pos ⟨h0, h9⟩, hn]; simp [Bool.and_assoc]
      have HB := Lib.hid hB; have HN := Lib.hid hn; clear hB hn hw
      go_enter Tryz.func41, Tryz.ntmps41
      go_wp2_with (first | (go_at_call 47; refine (word_impl _ _).mono ?_; rintro r w1 ⟨rfl, rfl⟩; rw [HN.out]) | (go_at_call 68; refine (small_impl _ _).mono ?_; rintro r w1 ⟨rfl, rfl⟩))
      all_goals go_ret
      all_goals exact ⟨ret_bool (by rw [HB.out, Bool.eq_iff_iff]; (try simp) <;> (try omega)), by (repeat (first | exact Below.refl _ _ | assumption | refine ext_alloc ?_ _ | refine below_drewN ?_ _ | refine ext_drew ?_ | (refine below_tr ?_ (by assumption))))⟩
    · have hB : actB a = (decide (0 ≤ a.who ∧ a.who ≤ 1000000) && decide (a.which = 0)) := by unfold actB; rw [if_pos ⟨h0, h9⟩, hn]; simp [Bool.and_assoc]
      have HB := Lib.hid hB; have HN := Lib.hid hn; clear hB hn hw
      go_enter Tryz.func41, Tryz.ntmps41
      go_wp2_with (first | (go_at_call 47; refine (word_impl _ _).mono ?_; rintro r w1 ⟨rfl, rfl⟩; rw [HN.out]) | (go_at_call 68; refine (small_impl _ _).mono ?_; rintro r w1 ⟨rfl, rfl⟩))
      all_goals go_ret
      all_goals exact ⟨ret_bool (by rw [HB.out, Bool.eq_iff_iff]; (try simp) <;> (try omega)), by (repeat (first | exact Below.refl _ _ | assumption | refine ext_alloc ?_ _ | refine below_drewN ?_ _ | refine ext_drew ?_ | (refine below_tr ?_ (by assumption))))⟩
  · have hB : actB a = false := by unfold actB; rw [if_neg h]
    have HB := Lib.hid hB; have e1 : (wordL a.what).isEmpty = true := by rw [hw]; rfl
    clear hB hw
    go_enter Tryz.func41, Tryz.ntmps41
    go_wp2_with (go_at_call 47; refine (word_impl _ _).mono ?_; rintro r w1 ⟨rfl, rfl⟩)
    all_goals go_ret
    all_goals exact ⟨ret_bool (by rw [HB.out]), by (repeat (first | exact Below.refl _ _ | assumption | refine ext_alloc ?_ _ | refine below_drewN ?_ _ | refine ext_drew ?_ | (refine below_tr ?_ (by assumption))))⟩
end Go.Proofs.YtljbclkbmjjmdaaGreatDoor
