/- Numbers, as they are written and read; no program in sight. -/
import Derived.Test.YtljbclkbmjjmdaaGreatDoorM
import Derived.Lib.ParseIntBCases
import Derived.Lib.ItoaMem
namespace Go.Proofs.YtljbclkbmjjmdaaGreatDoor
open Go.RowKit Go.Lib
theorem parse_snoc (c : UInt8) : ∀ (l : List UInt8) (acc : Nat), parseUint10 acc (l ++ [c]) = match parseUint10 acc l with | .ok v => parseUint10 v [c] | r => r
  | [], acc => by simp [parseUint10]
  | x :: r, acc => by
    simp only [List.cons_append, parseUint10]
    split
    · split
      · rfl
      · split
        · rfl
        · exact parse_snoc c r _
    · rfl
theorem parse_dec (u : Nat) (h : u < 18446744073709551616) : parseUint10 0 (decDigits u) = .ok u := by
  induction u using Nat.strongRecOn with
  | _ u ih =>
    rw [decDigits]
    split
    · rename_i hu
      have e : (UInt8.ofNat (48 + u)).toNat = 48 + u := by simp; omega
      simp only [parseUint10, e]
      rw [if_pos (by omega), if_neg (by omega), if_neg (by omega)]
      congr 1
      omega
    · rename_i hu
      rw [parse_snoc, ih (u / 10) (by omega) (by omega)]
      have e : (UInt8.ofNat (48 + u % 10)).toNat = 48 + u % 10 := by simp; omega
      simp only [parseUint10, e]
      rw [if_pos (by omega), if_neg (by omega), if_neg (by omega)]
      congr 1
      omega
theorem dec_ne (u : Nat) : decDigits u ≠ [] := by
  rw [decDigits]
  split <;> simp
theorem dec_digit (u : Nat) : ∀ c ∈ decDigits u, 48 ≤ c.toNat ∧ c.toNat ≤ 57 := by
  induction u using Nat.strongRecOn with
  | _ u ih =>
    intro c hc
    rw [decDigits] at hc
    split at hc
    · rename_i hu
      simp at hc
      subst hc
      simp; omega
    · rename_i hu
      rw [List.mem_append] at hc
      rcases hc with hc | hc
      · exact ih (u / 10) (by omega) c hc
      · simp at hc
        subst hc
        simp; omega
/-- What is written is read as what it was. -/
theorem parse_itoa (v : Int) (h : Wf .i64 v) : parseIntB 64 (itoa v) = .ok v := by
  have hw := Wf.i64.1 h
  by_cases hn : v < 0
  · obtain ⟨u, rfl⟩ : ∃ u : Nat, v = -(u : Int) := ⟨v.natAbs, by omega⟩
    rw [itoa_neg u (by omega), parseIntB_minus, parseUintB_64]
    unfold parseMag
    rw [if_neg (dec_ne u), parse_dec u (by omega)]
    simp only [signedC]
    rw [if_neg (by omega)]
  · obtain ⟨u, rfl⟩ : ∃ u : Nat, v = (u : Int) := ⟨v.toNat, by omega⟩
    rw [itoa_nonneg]
    cases hd : decDigits u with
    | nil => exact absurd hd (dec_ne u)
    | cons c r =>
      have hc := dec_digit u c (by rw [hd]; simp)
      rw [parseIntB_plain 64 c r (by omega) (by omega), ← hd, parseUintB_64]
      unfold parseMag
      rw [if_neg (dec_ne u), parse_dec u (by omega)]
      simp only [signlessC]
      rw [if_neg (by omega)]
theorem itoa_inj {a b : Int} (ha : Wf .i64 a) (hb : Wf .i64 b) (h : itoa a = itoa b) : a = b := by
  have h1 := parse_itoa a ha
  rw [h, parse_itoa b hb] at h1
  injection h1 with h1
  exact h1.symm
/-- A text that spells a number as it is written. -/
def IsNum (s : ByteArray) (v : Int) : Prop := Wf .i64 v ∧ s.data.toList = itoa v
theorem IsNum.eq {s : ByteArray} {a b : Int} (ha : IsNum s a) (hb : IsNum s b) : a = b := itoa_inj ha.1 hb.1 (ha.2.symm.trans hb.2)
theorem num_none {s : ByteArray} (h : ∀ v, parseIntB 64 s.data.toList ≠ .ok v) : ∀ v, ¬ IsNum s v := fun v hv => h v (by rw [hv.2]; exact parse_itoa v hv.1)
theorem num_other {s : ByteArray} {v : Int} (h : parseIntB 64 s.data.toList = .ok v) (hn : s.data.toList ≠ itoa v) : ∀ v, ¬ IsNum s v := fun u hu => hn (by
  have := parse_itoa u hu.1
  rw [← hu.2, h] at this
  injection this with this
  rw [this]
  exact hu.2)
theorem parse_wf {s : List UInt8} {v : Int} (h : parseIntB 64 s = .ok v) : Wf .i64 v := by
  rw [Wf.i64]
  unfold parseIntB at h
  split at h
  · cases h
  · dsimp only at h
    split at h
    · cases h
    · cases h
    · split at h
      · cases h
      · split at h
        · cases h
        · injection h with h
          rename_i h1 h2
          split at h
          · rename_i h3; simp [h3] at h1 h2; omega
          · rename_i h3; simp [h3] at h1 h2; omega
end Go.Proofs.YtljbclkbmjjmdaaGreatDoor
