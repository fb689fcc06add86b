/- The plain words for what the layers speak of: events, jobs, acts, plans; no program in sight. -/
import Derived.Test.YtljbclkbmjjmdaaGreatDoorLib
import Derived.Lib.ItoaNum
namespace Go.Proofs.YtljbclkbmjjmdaaGreatDoor
open Go.RowKit

structure Ev where
  key : ByteArray
  at_ : Int
  val : Int
structure Jb where
  groups : Int
  size : Int
  slide : Int
  fold : Int
  fuel : Int
  limit : Int
  delay : Int
  idle : Int
structure Ac where
  what : Int
  who : Int
  which : Int
structure Pl where
  job : Jb
  inputs : List (List Ev)
  workers : Int
  acts : List Ac

def Ev.cells (e : Ev) : List Value := [.string e.key, .int .i64 e.at_, .int .i64 e.val]
def Ev.wf (e : Ev) : Prop := WfS e.key ∧ Wf .i64 e.at_ ∧ Wf .i64 e.val
def rEv : RepT Ev := fun _ e cs => cs = [.string e.key, .int .i64 e.at_, .int .i64 e.val] ∧ e.wf
theorem rEv.mono : Mono rEv := fun _ _ _ _ h _ => h
def Ac.wf (a : Ac) : Prop := Wf .i64 a.what ∧ Wf .i64 a.who ∧ Wf .i64 a.which
def rAc : RepT Ac := fun _ a cs => cs = [.int .i64 a.what, .int .i64 a.who, .int .i64 a.which] ∧ a.wf
theorem rAc.mono : Mono rAc := fun _ _ _ _ h _ => h
def Jb.wf (j : Jb) : Prop := Wf .i64 j.groups ∧ Wf .i64 j.size ∧ Wf .i64 j.slide ∧ Wf .i64 j.fold ∧ Wf .i64 j.fuel ∧ Wf .i64 j.limit ∧ Wf .i64 j.delay ∧ Wf .i64 j.idle

def keyB (s : ByteArray) : Bool := decide (1 ≤ s.size ∧ s.size ≤ 16)
def eventB (e : Ev) : Bool := decide (1 ≤ e.key.size ∧ e.key.size ≤ 16 ∧ 0 ≤ e.at_ ∧ e.at_ < 1099511627776)
def lettersB (s : ByteArray) : Bool := s.data.toList.all fun c => decide (97 ≤ c.toNat ∧ c.toNat ≤ 122)
def winB (size slide : Int) : Bool := decide (1 ≤ slide ∧ slide ≤ size ∧ size ≤ 1048576 ∧ size ≤ 16 * slide)
def foldB (k : Int) : Bool := decide (1 ≤ k ∧ k ≤ 5)
def jobB (j : Jb) : Bool := decide (1 ≤ j.groups ∧ j.groups ≤ 32) && winB j.size j.slide && foldB j.fold && decide (0 ≤ j.fuel ∧ j.fuel ≤ 40 ∧ 0 ≤ j.limit ∧ 0 ≤ j.delay ∧ j.delay ≤ 1099511627776 ∧ 0 ≤ j.idle ∧ j.idle ≤ 1048576)

/-- An act's word; which of its numbers it needs: none (0), Which (1), Who (2). -/
def wordL (n : Int) : List UInt8 :=
  if n = 0 then [114, 111, 117, 110, 100] else
  if n = 1 then [116, 101, 108, 108] else
  if n = 2 then [97, 103, 97, 105, 110] else
  if n = 3 then [108, 111, 115, 101] else
  if n = 4 then [116, 105, 99, 107] else
  if n = 5 then [99, 114, 97, 115, 104] else
  if n = 6 then [115, 116, 97, 114, 116] else
  if n = 7 then [114, 101, 115, 99, 97, 108, 101] else
  if n = 8 then [99, 104, 101, 99, 107] else
  if n = 9 then [102, 101, 101, 100] else
  []
def needs (n : Int) : Int :=
  if n = 0 then 0 else
  if n = 1 then 1 else
  if n = 2 then 1 else
  if n = 3 then 1 else
  if n = 4 then 0 else
  if n = 5 then 2 else
  if n = 6 then 2 else
  if n = 7 then 1 else
  if n = 8 then 0 else
  if n = 9 then 2 else
  0
def actB (a : Ac) : Bool :=
  if 0 ≤ a.what ∧ a.what ≤ 9 then
    if needs a.what = 1 then decide (0 ≤ a.which ∧ a.which ≤ 1000000 ∧ a.who = 0)
    else if needs a.what = 2 then decide (0 ≤ a.who ∧ a.who ≤ 1000000 ∧ a.which = 0)
    else decide (a.who = 0 ∧ a.which = 0)
  else false
theorem what_cases (n : Int) : n = 0 ∨ n = 1 ∨ n = 2 ∨ n = 3 ∨ n = 4 ∨ n = 5 ∨ n = 6 ∨ n = 7 ∨ n = 8 ∨ n = 9 ∨ ¬ (0 ≤ n ∧ n ≤ 9) := by omega

def inputB (s : List Ev) : Bool := decide (s.length ≤ 200) && s.all eventB
def inputsB (l : List (List Ev)) : Bool := decide (1 ≤ l.length ∧ l.length ≤ 4) && l.all inputB
def planB (p : Pl) : Bool := jobB p.job && inputsB p.inputs && decide (1 ≤ p.workers ∧ p.workers ≤ 8) && decide (p.acts.length ≤ 400) && p.inputs.all (fun s => s.all fun e => lettersB e.key) && p.acts.all actB
abbrev rIn : RepT (List Ev) := rSl 3 rEv
theorem rIn.mono : Mono rIn := rSl.mono rEv.mono


/-- A fold's name. -/
def foldL (k : Int) : List UInt8 :=
  if k = 1 then [99, 111, 117, 110, 116] else
  if k = 2 then [115, 117, 109] else
  if k = 3 then [108, 101, 97, 115, 116] else
  if k = 4 then [103, 114, 101, 97, 116, 101, 115, 116] else
  if k = 5 then [115, 112, 114, 101, 97, 100] else
  []
/-- A job's six lines. -/
def jobL (j : Jb) : List UInt8 :=
  [103, 114, 111, 117, 112, 115] ++ 32 :: Lib.itoa j.groups ++ [10, 119, 105, 110, 100, 111, 119] ++ 32 :: Lib.itoa j.size ++ 32 :: Lib.itoa j.slide ++ [10, 102, 111, 108, 100, 32] ++ foldL j.fold ++ [10, 108, 111, 111, 112] ++ 32 :: Lib.itoa j.limit ++ 32 :: Lib.itoa j.fuel ++ [10, 100, 101, 108, 97, 121] ++ 32 :: Lib.itoa j.delay ++ [10, 105, 100, 108, 101] ++ 32 :: Lib.itoa j.idle ++ [10]

/-- How long a number is, written. -/
theorem dec_len : ∀ (k u : Nat), u < 10 ^ (k + 1) → (Lib.decDigits u).length ≤ k + 1
  | 0, u, h => by rw [Lib.decDigits, dif_pos (by simpa using h)]; simp
  | k + 1, u, h => by
    rw [Lib.decDigits]
    split
    · simp
    · rw [List.length_append, List.length_singleton]
      have := dec_len k (u / 10) (by rw [Nat.pow_succ] at h; omega)
      omega
theorem itoa_len (n : Int) (h : Wf .i64 n) : (Lib.itoa n).length ≤ 20 := by
  have h := Wf.i64.1 h
  unfold Lib.itoa
  split
  · have := dec_len 18 n.natAbs (by omega)
    simp only [List.length_cons]
    omega
  · have := dec_len 18 n.toNat (by omega)
    omega
theorem itoa_pos (n : Int) : 1 ≤ (Lib.itoa n).length := by
  have hd : ∀ u, 1 ≤ (Lib.decDigits u).length := by
    intro u
    rw [Lib.decDigits]
    split <;> simp
  unfold Lib.itoa
  split
  · simp
  · exact hd _

end Go.Proofs.YtljbclkbmjjmdaaGreatDoor
