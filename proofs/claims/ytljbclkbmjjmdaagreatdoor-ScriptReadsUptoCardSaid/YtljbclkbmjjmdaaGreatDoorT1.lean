/- Numbers as text, and a job's lines: what is written. -/
import Derived.Test.YtljbclkbmjjmdaaGreatDoorS2
import Derived.Test.YtljbclkbmjjmdaaGreatDoorShelf
import Derived.WalkSmall
import Derived.Deep.RegionHeld3
import Derived.Lib.QuietBelow
namespace Go.Proofs.YtljbclkbmjjmdaaGreatDoor
open Go.RowKit Go.Shelf

/-- The table of powers of ten holds them. -/
def Tab (w : World) : Prop := Lib.TabIs Tryz.prog w "internal/strconv.uint64pow10" .u64 Lib.pow10Tab
theorem tab_global : Tryz.prog.globalNamed "internal/strconv.uint64pow10" = some 1 := by kernel_rfl
theorem Tab.mono {w w' : World} (h : Tab w) (hb : Below w.heap.size w w') : Tab w' := by
  unfold Tab Lib.TabIs at *
  have hg : 1 < w.heap.size := by
    rcases Nat.lt_or_ge 1 w.heap.size with h' | h'
    · exact h'
    · unfold World.var? at h
      rw [tab_global, Option.bind_some, Array.getElem?_eq_none h'] at h
      simp at h
  exact var?_below hb tab_global hg h

theorem below_grow (B : Nat) (w : World) (hB : B ≤ w.heap.size) (k : Nat) (os : Array Obj) : Below B w (Sort.grow (w.drewN k) os) :=
  ⟨rfl, rfl, rfl, by show w.heap.size ≤ (w.heap ++ os).size; rw [Array.size_append]; omega, fun i hi => by
    show (w.heap ++ os)[i]? = _
    rw [Array.getElem?_append_left (by omega)]⟩
theorem fmt_int (n : Int) (hn : Wf .i64 n) (w : World) (ht : Tab w) : Calls Tryz.prog 55 #[.int .i64 n, .int .i64 10] w fun e w' => e = .returned (.string ⟨(Lib.itoa n).toArray⟩) ∧ Below w.heap.size w w' := by
  have hn := Wf.i64.1 hn
  refine (Tryz.strconv_FormatInt_10 n hn.1 hn.2 w ht).mono ?_
  rintro e w' ⟨rfl, k, os, rfl⟩
  exact ⟨rfl, below_grow _ _ (Nat.le_refl _) _ _⟩
theorem itoa_int (n : Int) (hn : Wf .i64 n) (w : World) (ht : Tab w) : Calls Tryz.prog 30 #[.int .i64 n] w fun e w' => e = .returned (.string ⟨(Lib.itoa n).toArray⟩) ∧ Below w.heap.size w w' := by
  have hn := Wf.i64.1 hn
  refine (Tryz.strconv_Itoa n hn.1 hn.2 w ht).mono ?_
  rintro e w' ⟨rfl, k, os, rfl⟩
  exact ⟨rfl, below_grow _ _ (Nat.le_refl _) _ _⟩
theorem job_n (n : Int) (hn : Wf .i64 n) (w : World) (ht : Tab w) : Calls Tryz.prog 54 #[.int .i64 n] w fun e w' => e = .returned (.string ⟨(32 :: Lib.itoa n).toArray⟩) ∧ Below w.heap.size w w' := by
  have HC := fun W (h : Below w.heap.size w W) => Lib.hid (fmt_int n hn W (ht.mono h))
  have hl := itoa_len n hn
  clear ht hn
  go_enter Tryz.func54, Tryz.ntmps54
  go_wp2_with (go_at_call 55; refine (HC _ (by (repeat (first | exact Below.refl _ _ | assumption | refine ext_alloc ?_ _ | refine below_drewN ?_ _ | refine ext_drew ?_ | (refine below_tr ?_ (by assumption)))))).out.mono ?_; rintro r w1 ⟨rfl, hb1⟩)
  go_ret
  exact ⟨ret_str (mk_app [32] _), by (repeat (first | exact Below.refl _ _ | assumption | refine ext_alloc ?_ _ | refine below_drewN ?_ _ | refine ext_drew ?_ | (refine below_tr ?_ (by assumption))))⟩
theorem keep8 {b : Nat} {C0 C1 C2 C3 C4 C5 C6 C7 : Value} {w W w1 : World} (h : W.cell? ⟨b, 0, none⟩ = some C0 ∧ W.cell? ⟨b, 1, none⟩ = some C1 ∧ W.cell? ⟨b, 2, none⟩ = some C2 ∧ W.cell? ⟨b, 3, none⟩ = some C3 ∧ W.cell? ⟨b, 4, none⟩ = some C4 ∧ W.cell? ⟨b, 5, none⟩ = some C5 ∧ W.cell? ⟨b, 6, none⟩ = some C6 ∧ W.cell? ⟨b, 7, none⟩ = some C7 ∧ Tab W ∧ Below w.heap.size w W ∧ b < W.heap.size)
    (hb : Below W.heap.size W w1) : w1.cell? ⟨b, 0, none⟩ = some C0 ∧ w1.cell? ⟨b, 1, none⟩ = some C1 ∧ w1.cell? ⟨b, 2, none⟩ = some C2 ∧ w1.cell? ⟨b, 3, none⟩ = some C3 ∧ w1.cell? ⟨b, 4, none⟩ = some C4 ∧ w1.cell? ⟨b, 5, none⟩ = some C5 ∧ w1.cell? ⟨b, 6, none⟩ = some C6 ∧ w1.cell? ⟨b, 7, none⟩ = some C7 ∧ Tab w1 ∧ Below w.heap.size w w1 ∧ b < w1.heap.size := by
  obtain ⟨h0, h1, h2, h3, h4, h5, h6, h7, ht, hB, hs⟩ := h
  have hc := (bcell hb).1
  have := hb.size
  refine ⟨?_, ?_, ?_, ?_, ?_, ?_, ?_, ?_, ht.mono hb, below_tr hB hb, by omega⟩ <;> rw [hc _ _ hs] <;> assumption

theorem fold_text (k : Int) (hk : foldB k = true) (w : World) : Calls Tryz.prog 107 #[.int .i64 k] w fun e w' => e = .returned (.string ⟨(foldL k).toArray⟩) ∧ Below w.heap.size w w' := by
  have hk : k = 1 ∨ k = 2 ∨ k = 3 ∨ k = 4 ∨ k = 5 := by unfold foldB at hk; simp at hk; omega
  rcases hk with h | h | h | h | h
  all_goals
    subst h
    go_enter Tryz.func107, Tryz.ntmps107
    go_wp2
    go_ret
    exact ⟨rfl, Below.refl _ _⟩
theorem foldL_len (k : Int) : (foldL k).length ≤ 8 := by
  unfold foldL
  repeat' split
  all_goals decide

/-- A struct's box, in whatever world has grown out of its own. -/
theorem box_cell (w : World) (cs : Array Value) (T : TypeId) (i : Nat) (v : Value) (h : cs[i]? = some v) : (w.alloc (.cells cs T)).cell? ⟨w.heap.size, i, none⟩ = some v := by
  simpa using h
end Go.Proofs.YtljbclkbmjjmdaaGreatDoor
