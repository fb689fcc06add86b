/- A job's lines, as they are read: the plain part; no program in sight. -/
import Derived.Test.YtljbclkbmjjmdaaGreatDoorW
import Derived.Test.YtljbclkbmjjmdaaGreatDoorQE
namespace Go.Proofs.YtljbclkbmjjmdaaGreatDoor
open Go.RowKit Go.Lib
def smallI (n : Int) : Int := min n 1073741824
def groupsW : List UInt8 := [103, 114, 111, 117, 112, 115]
def windowW : List UInt8 := [119, 105, 110, 100, 111, 119]
def foldW : List UInt8 := [102, 111, 108, 100]
def loopW : List UInt8 := [108, 111, 111, 112]
def delayW : List UInt8 := [100, 101, 108, 97, 121]
def idleW : List UInt8 := [105, 100, 108, 101]
/-- Bytes that spell a number from 0 on, as it is written. -/
def NumL (l : List UInt8) (v : Int) : Prop := Wf .i64 v ∧ l = itoa v ∧ 0 ≤ v
theorem NumL.eq {l : List UInt8} {a b : Int} (h : NumL l a) (k : NumL l b) : a = b := itoa_inj h.1 k.1 (h.2.1.symm.trans k.2.1)
/-- What the words behind the first one of a job's line k make of a job. -/
def LineP (k : Int) (xs : List (List UInt8)) (j j' : Jb) : Prop :=
  if k = 1 then ∃ x n, xs = [x] ∧ NumL x n ∧ j' = { j with groups := smallI n } else
  if k = 2 then ∃ x y a b, xs = [x, y] ∧ NumL x a ∧ NumL y b ∧ j' = { j with size := a, slide := b } else
  if k = 3 then ∃ x f, xs = [x] ∧ foldB f = true ∧ x = foldL f ∧ j' = { j with fold := f } else
  if k = 4 then ∃ x y a b, xs = [x, y] ∧ NumL x a ∧ NumL y b ∧ j' = { j with limit := a, fuel := smallI b } else
  if k = 5 then ∃ x n, xs = [x] ∧ NumL x n ∧ j' = { j with delay := n } else
  ∃ x n, xs = [x] ∧ NumL x n ∧ j' = { j with idle := smallI n }
def wordJ (k : Int) : List UInt8 := if k = 1 then groupsW else if k = 2 then windowW else if k = 3 then foldW else if k = 4 then loopW else if k = 5 then delayW else idleW
def LineIs (k : Int) (a : List UInt8) (j j' : Jb) : Prop := ∃ xs, wordsL 32 a = wordJ k :: xs ∧ LineP k xs j j'
theorem lineP1 (xs : List (List UInt8)) (j c : Jb) : LineP 1 xs j c = ∃ x n, xs = [x] ∧ NumL x n ∧ c = { j with groups := smallI n } := by unfold LineP; rw [if_pos rfl]
theorem lineP2 (xs : List (List UInt8)) (j c : Jb) : LineP 2 xs j c = ∃ x y a b, xs = [x, y] ∧ NumL x a ∧ NumL y b ∧ c = { j with size := a, slide := b } := by unfold LineP; rw [if_neg (by decide), if_pos rfl]
theorem lineP3 (xs : List (List UInt8)) (j c : Jb) : LineP 3 xs j c = ∃ x f, xs = [x] ∧ foldB f = true ∧ x = foldL f ∧ c = { j with fold := f } := by unfold LineP; rw [if_neg (by decide), if_neg (by decide), if_pos rfl]
theorem lineP4 (xs : List (List UInt8)) (j c : Jb) : LineP 4 xs j c = ∃ x y a b, xs = [x, y] ∧ NumL x a ∧ NumL y b ∧ c = { j with limit := a, fuel := smallI b } := by unfold LineP; rw [if_neg (by decide), if_neg (by decide), if_neg (by decide), if_pos rfl]
theorem lineP5 (xs : List (List UInt8)) (j c : Jb) : LineP 5 xs j c = ∃ x n, xs = [x] ∧ NumL x n ∧ c = { j with delay := n } := by unfold LineP; rw [if_neg (by decide), if_neg (by decide), if_neg (by decide), if_neg (by decide), if_pos rfl]
theorem lineP6 (xs : List (List UInt8)) (j c : Jb) : LineP 6 xs j c = ∃ x n, xs = [x] ∧ NumL x n ∧ c = { j with idle := smallI n } := by unfold LineP; rw [if_neg (by decide), if_neg (by decide), if_neg (by decide), if_neg (by decide), if_neg (by decide)]
theorem foldL_inj {a b : Int} (ha : foldB a = true) (hb : foldB b = true) (h : foldL a = foldL b) : a = b := by
  simp only [foldB, decide_eq_true_eq] at ha hb
  obtain ⟨a1, a2⟩ := ha
  obtain ⟨b1, b2⟩ := hb
  have ca : a = 1 ∨ a = 2 ∨ a = 3 ∨ a = 4 ∨ a = 5 := by omega
  have cb : b = 1 ∨ b = 2 ∨ b = 3 ∨ b = 4 ∨ b = 5 := by omega
  rcases ca with rfl | rfl | rfl | rfl | rfl <;> rcases cb with rfl | rfl | rfl | rfl | rfl <;> first | rfl | (exfalso; revert h; decide)
theorem LineP.eq {k : Int} {xs : List (List UInt8)} {j a b : Jb} (h : LineP k xs j a) (g : LineP k xs j b) : a = b := by
  unfold LineP at h g
  by_cases h1 : k = 1
  · rw [if_pos h1] at h g
    obtain ⟨x, n, rfl, hn, rfl⟩ := h
    obtain ⟨x', n', e, hn', rfl⟩ := g
    injection e with e _
    subst e
    rw [hn.eq hn']
  rw [if_neg h1] at h g
  by_cases h2 : k = 2
  · rw [if_pos h2] at h g
    obtain ⟨x, y, n, m, rfl, hn, hm, rfl⟩ := h
    obtain ⟨x', y', n', m', e, hn', hm', rfl⟩ := g
    injection e with e e2
    injection e2 with e2 _
    subst e e2
    rw [hn.eq hn', hm.eq hm']
  rw [if_neg h2] at h g
  by_cases h3 : k = 3
  · rw [if_pos h3] at h g
    obtain ⟨x, n, rfl, hn, hx, rfl⟩ := h
    obtain ⟨x', n', e, hn', hx', rfl⟩ := g
    injection e with e _
    subst e
    rw [foldL_inj hn hn' (hx.symm.trans hx')]
  rw [if_neg h3] at h g
  by_cases h4 : k = 4
  · rw [if_pos h4] at h g
    obtain ⟨x, y, n, m, rfl, hn, hm, rfl⟩ := h
    obtain ⟨x', y', n', m', e, hn', hm', rfl⟩ := g
    injection e with e e2
    injection e2 with e2 _
    subst e e2
    rw [hn.eq hn', hm.eq hm']
  rw [if_neg h4] at h g
  by_cases h5 : k = 5
  · rw [if_pos h5] at h g
    obtain ⟨x, n, rfl, hn, rfl⟩ := h
    obtain ⟨x', n', e, hn', rfl⟩ := g
    injection e with e _
    subst e
    rw [hn.eq hn']
  · rw [if_neg h5] at h g
    obtain ⟨x, n, rfl, hn, rfl⟩ := h
    obtain ⟨x', n', e, hn', rfl⟩ := g
    injection e with e _
    subst e
    rw [hn.eq hn']
theorem LineIs.eq {k : Int} {l : List UInt8} {j a b : Jb} (h : LineIs k l j a) (g : LineIs k l j b) : a = b := by
  obtain ⟨xs, e, h⟩ := h
  obtain ⟨ys, e', g⟩ := g
  rw [e] at e'
  injection e' with _ e'
  subst e'
  exact h.eq g
def zeroJ : Jb := ⟨0, 0, 0, 0, 0, 0, 0, 0⟩
/-- A text cut behind its first line. -/
def Cut10 (l a b : List UInt8) : Prop := l = a ++ 10 :: b ∧ 10 ∉ a
theorem Cut10.eq {l a b a' b' : List UInt8} (h : Cut10 l a b) (k : Cut10 l a' b') : a = a' ∧ b = b' := by
  have h1 := cut1_app 10 a b h.2
  have h2 := cut1_app 10 a' b' k.2
  rw [← h.1] at h1
  rw [← k.1, h1] at h2
  injection h2 with e h2
  injection h2 with e2 _
  exact ⟨e, e2⟩
theorem cut10_iff (l a b : List UInt8) : Cut10 l a b ↔ cut1 10 l = (a, b, true) := by
  refine ⟨fun h => by rw [h.1]; exact cut1_app 10 a b h.2, fun h => ?_⟩
  rcases cut1_inv 10 l with ⟨p, q, e, hn, hc⟩ | ⟨_, hc⟩
  · rw [h] at hc
    injection hc with e1 hc
    injection hc with e2 _
    subst e1 e2
    exact ⟨e, hn⟩
  · rw [h] at hc
    injection hc with _ hc
    injection hc with _ hc
    cases hc
theorem no_cut10 {l : List UInt8} (h : (cut1 10 l).2.2 = false) (a b : List UInt8) : ¬ Cut10 l a b := fun k => by
  rw [(cut10_iff l a b).1 k] at h
  cases h
/-- What is read of a job's text from line k on, where so much was read before: the job, the error, the line. -/
inductive JobRun : Int → List UInt8 → Jb → Jb → Int → Int → Prop where
  | bad (k : Int) (l : List UInt8) (j : Jb) (h1 : 1 ≤ k) (h6 : k ≤ 6) (h : ∀ a b j', Cut10 l a b → ¬ LineIs k a j j') : JobRun k l j zeroJ 131 k
  | step (k : Int) (l a b : List UInt8) (j j' x : Jb) (e n : Int) (h1 : 1 ≤ k) (h6 : k ≤ 6) (hc : Cut10 l a b) (h : LineIs k a j j') (hr : JobRun (k + 1) b j' x e n) : JobRun k l j x e n
  | more (l : List UInt8) (j : Jb) (h : l ≠ []) : JobRun 7 l j zeroJ 131 7
  | wrong (j : Jb) (h : jobB j = false) : JobRun 7 [] j zeroJ 130 0
  | done (j : Jb) (h : jobB j = true) : JobRun 7 [] j j 0 0
theorem JobRun.eq {k : Int} {l : List UInt8} {j x y : Jb} {e n f m : Int} (h : JobRun k l j x e n) : JobRun k l j y f m → x = y ∧ e = f ∧ n = m := by
  induction h with
  | bad k l j h1 h6 h =>
    intro g
    cases g with
    | bad => exact ⟨rfl, rfl, rfl⟩
    | step _ _ a b _ j' _ _ _ _ _ hc hl _ => exact absurd hl (h a b j' hc)
    | more => omega
    | wrong => omega
    | done => omega
  | step k l a b j j' x e n h1 h6 hc hl hr ih =>
    intro g
    cases g with
    | bad _ _ _ _ _ h => exact absurd hl (h a b j' hc)
    | step _ _ a' b' _ j'' _ _ _ _ _ hc' hl' hr' =>
      obtain ⟨rfl, rfl⟩ := hc.eq hc'
      obtain rfl := hl.eq hl'
      exact ih hr'
    | more => omega
    | wrong => omega
    | done => omega
  | more l j h =>
    intro g
    cases g with
    | bad => omega
    | step => omega
    | more => exact ⟨rfl, rfl, rfl⟩
    | wrong => exact absurd rfl h
    | done => exact absurd rfl h
  | wrong j h =>
    intro g
    cases g with
    | bad => omega
    | step => omega
    | more _ _ h' => exact absurd rfl h'
    | wrong => exact ⟨rfl, rfl, rfl⟩
    | done _ h' => rw [h] at h'; cases h'
  | done j h =>
    intro g
    cases g with
    | bad => omega
    | step => omega
    | more _ _ h' => exact absurd rfl h'
    | wrong _ h' => rw [h] at h'; cases h'
    | done => exact ⟨rfl, rfl, rfl⟩
end Go.Proofs.YtljbclkbmjjmdaaGreatDoor
