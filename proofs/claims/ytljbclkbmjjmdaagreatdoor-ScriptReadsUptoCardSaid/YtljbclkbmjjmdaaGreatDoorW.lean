/- A text parted at each byte of a kind; no program in sight. -/
import Derived.Lib.SplitLaws
import Derived.Lib.IndexMore
namespace Go.Proofs.YtljbclkbmjjmdaaGreatDoor
open Go.Lib
/-- The pieces between the bytes c. -/
def wordsL (c : UInt8) : List UInt8 → List (List UInt8)
  | [] => [[]]
  | x :: r => if x = c then [] :: wordsL c r else match wordsL c r with | [] => [[x]] | h :: t => (x :: h) :: t
theorem wordsL_ne (c : UInt8) : ∀ l, wordsL c l ≠ []
  | [] => by simp [wordsL]
  | x :: r => by
    unfold wordsL
    split
    · simp
    · split <;> simp
theorem wordsL_none {c : UInt8} : ∀ {l : List UInt8}, c ∉ l → wordsL c l = [l]
  | [], _ => rfl
  | x :: r, h => by
    have h1 : x ≠ c := fun e => h (by simp [e])
    have h2 := wordsL_none (c := c) (l := r) (fun e => h (by simp [e]))
    simp [wordsL, h1, h2]
theorem wordsL_app {c : UInt8} : ∀ {a : List UInt8} (b : List UInt8), c ∉ a → wordsL c (a ++ c :: b) = a :: wordsL c b
  | [], b, _ => by simp [wordsL]
  | x :: a, b, h => by
    have h1 : x ≠ c := fun e => h (by simp [e])
    have h2 := wordsL_app (c := c) (a := a) b (fun e => h (by simp [e]))
    simp [wordsL, h1, h2]
/-- Words with the byte between them. -/
def joinC (c : UInt8) (ws : List (List UInt8)) : List UInt8 := (ws.flatMap fun s => c :: s).drop 1
theorem joinC_one (c : UInt8) (a : List UInt8) : joinC c [a] = a := by simp [joinC]
theorem joinC_cons (c : UInt8) (a : List UInt8) (ws : List (List UInt8)) (h : ws ≠ []) : joinC c (a :: ws) = a ++ c :: joinC c ws := by
  obtain ⟨b, r, rfl⟩ := List.exists_cons_of_ne_nil h
  simp [joinC]
theorem wordsL_join {c : UInt8} : ∀ {ws : List (List UInt8)}, ws ≠ [] → (∀ a ∈ ws, c ∉ a) → wordsL c (joinC c ws) = ws
  | [], h, _ => absurd rfl h
  | [a], _, h => by rw [joinC_one]; exact wordsL_none (h a (by simp))
  | a :: b :: r, _, h => by
    rw [joinC_cons c a (b :: r) (by simp), wordsL_app _ (h a (by simp)), wordsL_join (by simp) (fun x hx => h x (List.mem_cons_of_mem _ hx))]
theorem words_back (c : UInt8) : ∀ l, joinC c (wordsL c l) = l ∧ ∀ a ∈ wordsL c l, c ∉ a
  | [] => by simp [wordsL, joinC]
  | x :: r => by
    have ih := words_back c r
    by_cases e : x = c
    · subst e
      have hw : wordsL x (x :: r) = [] :: wordsL x r := by simp [wordsL]
      rw [hw]
      refine ⟨by rw [joinC_cons _ _ _ (wordsL_ne _ _), ih.1]; rfl, fun a ha => ?_⟩
      rcases List.mem_cons.1 ha with rfl | ha
      · simp
      · exact ih.2 a ha
    · obtain ⟨h, t, ht⟩ := List.exists_cons_of_ne_nil (wordsL_ne c r)
      have hw : wordsL c (x :: r) = (x :: h) :: t := by simp [wordsL, e, ht]
      rw [hw]
      rw [ht] at ih
      refine ⟨?_, fun a ha => ?_⟩
      · have : joinC c ((x :: h) :: t) = x :: joinC c (h :: t) := by simp [joinC]
        rw [this, ih.1]
      · rcases List.mem_cons.1 ha with rfl | ha
        · have := ih.2 h (by simp)
          intro hc
          rcases List.mem_cons.1 hc with h' | h'
          · exact e h'.symm
          · exact this h'
        · exact ih.2 a (by simp [ha])
theorem words_eq {c : UInt8} {l : List UInt8} {ws : List (List UInt8)} (h : wordsL c l = ws) : l = joinC c ws := by rw [← h, (words_back c l).1]
theorem words_len (c : UInt8) : ∀ l, (wordsL c l).length = l.count c + 1
  | [] => by simp [wordsL]
  | x :: r => by
    have ih := words_len c r
    by_cases e : x = c
    · subst e
      have hw : wordsL x (x :: r) = [] :: wordsL x r := by simp [wordsL]
      rw [hw, List.length_cons, ih, List.count_cons_self]
    · obtain ⟨h, t, ht⟩ := List.exists_cons_of_ne_nil (wordsL_ne c r)
      have hw : wordsL c (x :: r) = (x :: h) :: t := by simp [wordsL, e, ht]
      rw [ht] at ih
      rw [hw, List.count_cons_of_ne e, ← ih]
      simp
theorem words_size (c : UInt8) : ∀ l, ∀ a ∈ wordsL c l, a.length ≤ l.length
  | [], a, h => by simp [wordsL] at h; subst h; simp
  | x :: r, a, h => by
    have ih := words_size c r
    by_cases e : x = c
    · subst e
      have hw : wordsL x (x :: r) = [] :: wordsL x r := by simp [wordsL]
      rw [hw] at h
      rcases List.mem_cons.1 h with rfl | h
      · simp
      · have := ih a h; simp; omega
    · obtain ⟨g, t, ht⟩ := List.exists_cons_of_ne_nil (wordsL_ne c r)
      have hw : wordsL c (x :: r) = (x :: g) :: t := by simp [wordsL, e, ht]
      rw [hw] at h
      rw [ht] at ih
      rcases List.mem_cons.1 h with rfl | h
      · have := ih g (by simp); simp; omega
      · have := ih a (by simp [h]); simp; omega
theorem idx_head (c x : UInt8) (r : List UInt8) (e : x ≠ c) : Lib.index (x :: r) [c] = if Lib.index r [c] == -1 then -1 else Lib.index r [c] + 1 := by
  have hp : [c].isPrefixOf (x :: r) = false := by
    have h1 : (c == x) = false := by rw [beq_eq_false_iff_ne]; exact Ne.symm e
    show (c == x && [].isPrefixOf r) = false
    rw [h1]; rfl
  conv => lhs; unfold Lib.index
  rw [hp]
  simp
theorem idx_self (c : UInt8) (r : List UInt8) : Lib.index (c :: r) [c] = 0 := by
  have h1 : [c].isPrefixOf (c :: r) = true := by
    show (c == c && [].isPrefixOf r) = true
    rw [beq_self_eq_true]; cases r <;> rfl
  unfold Lib.index
  rw [if_pos h1]
theorem idx_nil (c : UInt8) : Lib.index [] [c] = -1 := rfl
theorem idx_cases (c : UInt8) : ∀ l : List UInt8, (Lib.index l [c] = -1 ∧ c ∉ l) ∨ ∃ a b, l = a ++ c :: b ∧ c ∉ a ∧ Lib.index l [c] = a.length
  | [] => .inl ⟨rfl, by simp⟩
  | x :: r => by
    by_cases e : x = c
    · subst e
      exact .inr ⟨[], r, rfl, by simp, by rw [idx_self]; rfl⟩
    · rw [idx_head c x r e]
      rcases idx_cases c r with ⟨h1, h2⟩ | ⟨a, b, rfl, h1, h2⟩
      · refine .inl ⟨by rw [h1]; rfl, fun h => ?_⟩
        rcases List.mem_cons.1 h with h' | h'
        · exact e h'.symm
        · exact h2 h'
      · refine .inr ⟨x :: a, b, rfl, fun h => ?_, ?_⟩
        · rcases List.mem_cons.1 h with h' | h'
          · exact e h'.symm
          · exact h1 h'
        · rw [h2, if_neg (by rw [beq_iff_eq]; omega)]
          simp
theorem splitK_words (c : UInt8) : ∀ (k : Nat) (l : List UInt8), l.count c ≤ k → Lib.splitK [c] 0 k l = wordsL c l
  | 0, l, h => by
    have hn : c ∉ l := by rw [← List.count_eq_zero]; omega
    rw [wordsL_none hn]; rfl
  | k + 1, l, h => by
    rcases idx_cases c l with ⟨h1, h2⟩ | ⟨a, b, rfl, h1, h2⟩
    · unfold Lib.splitK
      rw [h1, wordsL_none h2]; rfl
    · unfold Lib.splitK
      rw [h2, wordsL_app b h1, if_neg (by rw [beq_iff_eq]; omega)]
      have hz : a.count c = 0 := List.count_eq_zero.2 h1
      have hc : b.count c ≤ k := by
        rw [List.count_append, List.count_cons_self] at h
        omega
      rw [← splitK_words c k b hc]
      simp
theorem split_words (s : ByteArray) (c : UInt8) : Lib.splitB (ByteArray.mk #[c]) 0 (Lib.countB s (ByteArray.mk #[c])) s = (wordsL c s.data.toList).map fun l => ByteArray.mk l.toArray := by
  have h := Lib.splitB_data (ByteArray.mk #[c]) 0 (Lib.countB s (ByteArray.mk #[c])) s
  have e : Lib.countB s (ByteArray.mk #[c]) = s.data.toList.count c := by
    show Lib.count s.data.toList [c] = _
    exact Lib.count_one c _
  rw [show (ByteArray.mk #[c]).data.toList = [c] from rfl, splitK_words c _ _ (by rw [e]; exact Nat.le_refl _)] at h
  rw [← h, List.map_map]
  conv => lhs; rw [← List.map_id (Lib.splitB _ _ _ _)]
  apply List.map_congr_left
  intro x _
  apply ByteArray.ext
  simp
theorem count_words (s : ByteArray) (c : UInt8) : Lib.countB s (ByteArray.mk #[c]) + 1 = (wordsL c s.data.toList).length := by
  rw [words_len]
  show Lib.count s.data.toList [c] + 1 = _
  rw [Lib.count_one]
end Go.Proofs.YtljbclkbmjjmdaaGreatDoor
