/- A text cut at a byte; no program in sight. -/
import Derived.Test.YtljbclkbmjjmdaaGreatDoorN
import Derived.Lib.IndexMore
namespace Go.Proofs.YtljbclkbmjjmdaaGreatDoor
open Go.RowKit Go.Lib
def cut1 (c : UInt8) : List UInt8 → List UInt8 × List UInt8 × Bool
  | [] => ([], [], false)
  | x :: r => if x = c then ([], r, true) else (x :: (cut1 c r).1, (cut1 c r).2.1, (cut1 c r).2.2)
theorem cut1_app (c : UInt8) : ∀ (a b : List UInt8), c ∉ a → cut1 c (a ++ c :: b) = (a, b, true)
  | [], b, _ => by simp [cut1]
  | x :: a, b, h => by
    have h1 : x ≠ c := fun e => h (by simp [e])
    have h2 := cut1_app c a b (fun e => h (by simp [e]))
    simp only [List.cons_append, cut1, h2]
    rw [if_neg h1]
theorem cut1_none (c : UInt8) : ∀ (a : List UInt8), c ∉ a → cut1 c a = (a, [], false)
  | [], _ => rfl
  | x :: a, h => by
    have h1 : x ≠ c := fun e => h (by simp [e])
    have h2 := cut1_none c a (fun e => h (by simp [e]))
    simp only [cut1, h2]
    rw [if_neg h1]
theorem cut1_inv (c : UInt8) (l : List UInt8) : (∃ a b, l = a ++ c :: b ∧ c ∉ a ∧ cut1 c l = (a, b, true)) ∨ (c ∉ l ∧ cut1 c l = (l, [], false)) := by
  by_cases h : c ∈ l
  · left
    induction l with
    | nil => cases h
    | cons x r ih =>
      by_cases e : x = c
      · subst e
        exact ⟨[], r, rfl, by simp, by simp [cut1]⟩
      · have hr : c ∈ r := by
          rcases List.mem_cons.1 h with h' | h'
          · exact absurd h'.symm e
          · exact h'
        obtain ⟨a, b, rfl, hn, _⟩ := ih hr
        have hn' : c ∉ x :: a := by
          intro h'
          rcases List.mem_cons.1 h' with h'' | h''
          · exact e h''.symm
          · exact hn h''
        exact ⟨x :: a, b, rfl, hn', cut1_app c (x :: a) b hn'⟩
  · exact .inr ⟨h, cut1_none c l h⟩
theorem cut_one (c : UInt8) (l : List UInt8) : Lib.cut l [c] = cut1 c l := by
  have key : ∀ l : List UInt8, (index l [c] = -1 ∧ cut1 c l = (l, [], false)) ∨ ∃ i : Nat, index l [c] = i ∧ cut1 c l = (l.take i, l.drop (i + 1), true) := by
    intro l
    induction l with
    | nil => exact .inl ⟨rfl, rfl⟩
    | cons x r ih =>
      by_cases e : x = c
      · subst e
        refine .inr ⟨0, ?_, by simp [cut1]⟩
        have h1 : [x].isPrefixOf (x :: r) = true := by
          show (x == x && [].isPrefixOf r) = true
          rw [beq_self_eq_true]; cases r <;> rfl
        unfold index
        rw [if_pos h1]
        rfl
      · have hp : [c].isPrefixOf (x :: r) = false := by
          have h1 : (c == x) = false := by rw [beq_eq_false_iff_ne]; exact Ne.symm e
          show (c == x && [].isPrefixOf r) = false
          rw [h1]; rfl
        rcases ih with ⟨h1, h2⟩ | ⟨i, h1, h2⟩
        · refine .inl ⟨?_, ?_⟩
          · unfold index; rw [hp, h1]; rfl
          · simp only [cut1, h2]; rw [if_neg e]
        · refine .inr ⟨i + 1, ?_, ?_⟩
          · unfold index
            rw [hp, h1]
            have : ((i : Int) == -1) = false := by rw [beq_eq_false_iff_ne]; omega
            simp [this]
          · simp only [cut1, h2]; rw [if_neg e]; simp
  unfold Lib.cut
  rcases key l with ⟨h1, h2⟩ | ⟨i, h1, h2⟩
  · rw [h1, h2, if_neg (by omega)]
  · rw [h1, h2, if_pos (by omega)]
    simp
theorem cut1_len (c : UInt8) : ∀ l : List UInt8, (cut1 c l).1.length ≤ l.length ∧ (cut1 c l).2.1.length ≤ l.length
  | [] => by simp [cut1]
  | x :: r => by
    have h := cut1_len c r
    simp only [cut1]
    split
    · simp
    · simp only [List.length_cons]; omega
theorem itoa_chars (v : Int) : ∀ c ∈ itoa v, c.toNat = 45 ∨ (48 ≤ c.toNat ∧ c.toNat ≤ 57) := by
  intro c hc
  unfold itoa at hc
  split at hc
  · rcases List.mem_cons.1 hc with rfl | h
    · exact .inl rfl
    · exact .inr (dec_digit _ c h)
  · exact .inr (dec_digit _ c hc)
end Go.Proofs.YtljbclkbmjjmdaaGreatDoor
