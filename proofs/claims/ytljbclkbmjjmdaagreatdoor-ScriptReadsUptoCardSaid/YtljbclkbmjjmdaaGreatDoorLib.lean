/- Words of our own for all walks of this seat: what a slice of elements reads as, calls that leave old memory alone. -/
import Derived.Test.YtljbclkbmjjmdaaGreatDoorProg
import Derived.WalkKit
import Derived.LoopTactic
import Derived.Outline
import Derived.Lib.Hide
import Derived.WalkLawsBesides
import Derived.WalkSpells
import Derived.Deep.QuietTactic
import Derived.BigQuiet
import Derived.Shelf.Abstract
namespace Go.Proofs.YtljbclkbmjjmdaaGreatDoor
open Go.RowKit Go.Shelf

/-- How a value of type α stands in a row of cells, in a world. -/
abbrev RepT (α : Type) := World → α → List Value → Prop

/-- What stands so goes on to stand so where old memory is left alone. -/
def Mono {α : Type} (R : RepT α) : Prop := ∀ w w' x cs, R w x cs → Below w.heap.size w w' → R w' x cs

/-- A number is one of its kind. -/
def Wf (k : IntKind) (x : Int) : Prop := (Lit.int k x).wf = true

theorem Wf.i64 {x : Int} : Wf .i64 x ↔ -9223372036854775808 ≤ x ∧ x ≤ 9223372036854775807 := by
  simp [Wf, Lit.wf, IntKind.min, IntKind.max, IntKind.signed, IntKind.bits]

/-- A text is none that is too long. -/
def WfS (s : ByteArray) : Prop := s.size ≤ 9223372036854775807

def rInt (k : IntKind) : RepT Int := fun _ x cs => cs = [.int k x] ∧ Wf k x
def rBool : RepT Bool := fun _ x cs => cs = [.bool x]
def rStr : RepT ByteArray := fun _ s cs => cs = [.string s] ∧ WfS s

theorem rInt.mono (k : IntKind) : Mono (rInt k) := fun _ _ _ _ h _ => h
theorem rBool.mono : Mono rBool := fun _ _ _ _ h _ => h
theorem rStr.mono : Mono rStr := fun _ _ _ _ h _ => h

/-- The cells of a slice's elements: k cells each, from A on. -/
def SlA {α : Type} (k : Nat) (R : RepT α) (w : World) (A : Option Addr) (xs : List α) : Prop :=
  ∀ i x, xs[i]? = some x → ∃ b o cs, A = some ⟨b, o, none⟩ ∧ b < w.heap.size ∧ R w x cs ∧ cs.length = k ∧ ∀ j u, cs[j]? = some u → w.cell? ⟨b, o + i * k + j, none⟩ = some u

/-- A slice value that reads as a list. -/
def Sl {α : Type} (k : Nat) (R : RepT α) (w : World) (v : Value) (xs : List α) : Prop :=
  ∃ A c, v = .slice A xs.length c ∧ SlA k R w A xs ∧ xs.length ≤ c ∧ c ≤ 9223372036854775807

theorem lt_of_cell {w : World} {b o : Nat} {v : Value} (h : w.cell? ⟨b, o, none⟩ = some v) : b < w.heap.size := World.block_lt_of_cell? w ⟨b, o, none⟩ h

theorem SlA.mono {α : Type} {k : Nat} {R : RepT α} (hR : Mono R) {w w' : World} {A : Option Addr} {xs : List α} (h : SlA k R w A xs) (hb : Below w.heap.size w w') : SlA k R w' A xs := by
  intro i x hx
  obtain ⟨b, o, cs, hA, hlt, hr, hk, hc⟩ := h i x hx
  refine ⟨b, o, cs, hA, Nat.lt_of_lt_of_le hlt hb.size, hR _ _ _ _ hr hb, hk, fun j u hu => ?_⟩
  exact (hb.cell (p := ⟨b, o + i * k + j, none⟩) hlt).trans (hc j u hu)

theorem Sl.mono {α : Type} {k : Nat} {R : RepT α} (hR : Mono R) {w w' : World} {v : Value} {xs : List α} (h : Sl k R w v xs) (hb : Below w.heap.size w w') : Sl k R w' v xs := by
  obtain ⟨A, c, e, hs, hc, hm⟩ := h
  exact ⟨A, c, e, hs.mono hR hb, hc, hm⟩

/-- A cell that holds a slice. -/
def rSl {α : Type} (k : Nat) (R : RepT α) : RepT (List α) := fun w xs cs => ∃ v, cs = [v] ∧ Sl k R w v xs
theorem rSl.mono {α : Type} {k : Nat} {R : RepT α} (hR : Mono R) : Mono (rSl k R) := by
  rintro w w' x cs ⟨v, rfl, h⟩ hb
  exact ⟨v, rfl, h.mono hR hb⟩

theorem SlA.nil {α : Type} (k : Nat) (R : RepT α) (w : World) (A : Option Addr) : SlA k R w A ([] : List α) := fun i x h => by simp at h
theorem Sl.nil {α : Type} (k : Nat) (R : RepT α) (w : World) : Sl k R w (.slice none 0 0) ([] : List α) := ⟨none, 0, rfl, SlA.nil k R w none, Nat.le_refl _, by omega⟩

/-- One element, of one cell. -/
theorem SlA.one {α : Type} {R : RepT α} {w : World} {A : Option Addr} {xs : List α} (h : SlA 1 R w A xs) (i : Nat) (hi : i < xs.length) :
    ∃ b o u, A = some ⟨b, o, none⟩ ∧ b < w.heap.size ∧ R w xs[i] [u] ∧ w.cell? ⟨b, o + i, none⟩ = some u := by
  obtain ⟨b, o, cs, hA, hlt, hr, hk, hc⟩ := h i xs[i] (List.getElem?_eq_getElem hi)
  match cs, hk with
  | [u], _ => exact ⟨b, o, u, hA, hlt, hr, by have := hc 0 u rfl; simpa using this⟩

/-- One element, of two, three .. cells. -/
theorem SlA.two {α : Type} {R : RepT α} {w : World} {A : Option Addr} {xs : List α} (h : SlA 2 R w A xs) (i : Nat) (hi : i < xs.length) :
    ∃ b o u0 u1, A = some ⟨b, o, none⟩ ∧ b < w.heap.size ∧ R w xs[i] [u0, u1] ∧ w.cell? ⟨b, o + i * 2, none⟩ = some u0 ∧ w.cell? ⟨b, o + i * 2 + 1, none⟩ = some u1 := by
  obtain ⟨b, o, cs, hA, hlt, hr, hk, hc⟩ := h i xs[i] (List.getElem?_eq_getElem hi)
  match cs, hk with
  | [u0, u1], _ => exact ⟨b, o, u0, u1, hA, hlt, hr, by simpa using hc 0 u0 rfl, hc 1 u1 rfl⟩
theorem SlA.three {α : Type} {R : RepT α} {w : World} {A : Option Addr} {xs : List α} (h : SlA 3 R w A xs) (i : Nat) (hi : i < xs.length) :
    ∃ b o u0 u1 u2, A = some ⟨b, o, none⟩ ∧ b < w.heap.size ∧ R w xs[i] [u0, u1, u2] ∧ w.cell? ⟨b, o + i * 3, none⟩ = some u0 ∧ w.cell? ⟨b, o + i * 3 + 1, none⟩ = some u1 ∧ w.cell? ⟨b, o + i * 3 + 2, none⟩ = some u2 := by
  obtain ⟨b, o, cs, hA, hlt, hr, hk, hc⟩ := h i xs[i] (List.getElem?_eq_getElem hi)
  match cs, hk with
  | [u0, u1, u2], _ => exact ⟨b, o, u0, u1, u2, hA, hlt, hr, by simpa using hc 0 u0 rfl, hc 1 u1 rfl, hc 2 u2 rfl⟩

/-- Where the first one stands of which p holds; -1: none. -/
def firstIdx {α : Type} (p : α → Bool) (xs : List α) : Int := match xs.findIdx? p with | some i => i | none => -1
/-- What is known while one looks for the first of which p holds. -/
theorem firstIdx_none {α : Type} (p : α → Bool) (xs : List α) (h : ∀ i (hi : i < xs.length), p xs[i] = false) : firstIdx p xs = -1 := by
  have : xs.findIdx? p = none := by
    rw [List.findIdx?_eq_none_iff]
    intro x hx
    obtain ⟨i, hi, rfl⟩ := List.getElem_of_mem hx
    exact h i hi
  simp [firstIdx, this]
theorem firstIdx_some {α : Type} (p : α → Bool) (xs : List α) (k : Nat) (hk : k < xs.length) (h : ∀ i (hi : i < k), p (xs[i]'(by omega)) = false) (hp : p xs[k] = true) : firstIdx p xs = (k : Int) := by
  have : xs.findIdx? p = some k := by
    rw [List.findIdx?_eq_some_iff_getElem]
    exact ⟨hk, hp, fun j hj => by simp [h j hj]⟩
  simp [firstIdx, this]

/-- A function value that tells whether a thing holds of what it is handed; it leaves all that lay there. -/
def FnPred {α : Type} (P : Program) (w : World) (g : Nat) (lb : Array Value) (R : RepT α) (mk : List Value → Value) (p : α → Bool) : Prop :=
  Enters P g ∧ ∀ W x cs, Below w.heap.size w W → R W x cs → Calls P g (#[mk cs] ++ lb) W fun e W' => e = .returned (.bool (p x)) ∧ Below W.heap.size W W'

theorem FnPred.mono {α : Type} {P : Program} {w w' : World} {g : Nat} {lb : Array Value} {R : RepT α} {mk : List Value → Value} {p : α → Bool} (h : FnPred P w g lb R mk p) (hb : Below w.heap.size w w') : FnPred P w' g lb R mk p :=
  ⟨h.1, fun W x cs hW hR => h.2 W x cs (hb.trans (hW.mono hb.size)) hR⟩

theorem tl_length (s : ByteArray) : s.toList.length = s.size := by
  rw [ByteArray.toList_eq, Array.length_toList]; rfl
theorem tl_nil (s : ByteArray) : s.toList = [] ↔ s.size = 0 := by rw [← tl_length, List.length_eq_zero_iff]
theorem tl_isEmpty (s : ByteArray) : s.toList.isEmpty = decide (s.size = 0) := by
  rw [Bool.eq_iff_iff]; simp [tl_nil]
/-- A text of these bytes. -/
theorem mk_app (a b : List UInt8) : (ByteArray.mk a.toArray) ++ (ByteArray.mk b.toArray) = ByteArray.mk (a ++ b).toArray := by
  apply ByteArray.ext
  simp [ByteArray.data_append]
theorem mk_of (s : ByteArray) : s = ByteArray.mk s.data.toList.toArray := by
  apply ByteArray.ext
  simp
theorem mk_size (a : List UInt8) : (ByteArray.mk a.toArray).size = a.length := by simp [ByteArray.size]
theorem ret_int {k : IntKind} {a b : Int} (h : a = b) : Ending.returned (.int k a) = .returned (.int k b) := by rw [h]
theorem ret_bool {a b : Bool} (h : a = b) : Ending.returned (.bool a) = .returned (.bool b) := by rw [h]
theorem ret_str {a b : ByteArray} (h : a = b) : Ending.returned (.string a) = .returned (.string b) := by rw [h]

theorem below_tr {w a b : World} (h : Below w.heap.size w a) (k : Below a.heap.size a b) : Below w.heap.size w b := h.trans (k.mono h.size)

theorem bcell {W w1 : World} (hb : Below W.heap.size W w1) : (∀ b o, b < W.heap.size → w1.cell? ⟨b, o, none⟩ = W.cell? ⟨b, o, none⟩) ∧ (∀ b o, b < W.heap.size → w1.frozen? ⟨b, o, none⟩ = W.frozen? ⟨b, o, none⟩) :=
  ⟨fun b o h => hb.cell (p := ⟨b, o, none⟩) h, fun b o h => hb.frozen (p := ⟨b, o, none⟩) h⟩

theorem ext_alloc {w W : World} (h : Below w.heap.size w W) (o : Obj) : Below w.heap.size w (W.alloc o) := h.alloc h.size o
theorem ext_drew {w W : World} (h : Below w.heap.size w W) : Below w.heap.size w W.drew := h.drew
theorem ext_setCell {w W : World} (h : Below w.heap.size w W) {p : Addr} (hp : w.heap.size ≤ p.block) (v : Value) : Below w.heap.size w (W.setCell p v) := h.setCell hp v
theorem below_drewN {B : Nat} {a w : World} (h : Below B a w) (n : Nat) : Below B a (w.drewN n) := ⟨h.os, h.tape, h.output, h.size, h.block⟩

end Go.Proofs.YtljbclkbmjjmdaaGreatDoor
