/- What the rows' lists give to the walks: the table of the powers of ten, the two errors; and a world for the witnesses, in which all listed variables hold what their initialisers lay. -/
import Derived.Test.YtljbclkbmjjmdaaGreatDoorCards
import Derived.Test.YtljbclkbmjjmdaaGreatDoorTie
import Derived.WalkKit
import Derived.ProofKit
import Derived.OpenShut
import Derived.Deep.DeepHandedRow
import Derived.Deep.DeepWitnessRowRef
import Derived.Lib.LaidTab
import Derived.LaidSub
import Derived.LaidLaws
import Derived.MakeChecks
import Derived.Carry
import Derived.Test.YtljbclkbmjjmdaaGreatDoorO
import Derived.Test.YtljbclkbmjjmdaaGreatDoorP1
namespace Go.Proofs.YtljbclkbmjjmdaaGreatDoor
open Go.ChangeShapes Go.WideShapes Go.ChangeAt Go.RowKit Go.Proofs.YtljbclkbmjjmdaaGreatDoor

theorem own : ownKnob Tryz.prog.godebug = none := by kernel_rfl
theorem laidOut : laidOutB Tryz.prog = true := by kernel_rfl
theorem gTab : Tryz.prog.globalNamed "internal/strconv.uint64pow10" = some 1 := by kernel_rfl
theorem gTabType : (Tryz.prog.globals[1]?).map (·.type) = some 153 := by kernel_rfl
theorem cellsT : Tryz.prog.cellsOf 153 = 20 := by kernel_rfl
theorem cellsE : Tryz.prog.cellsOf 138 = 1 := by kernel_rfl
theorem underT : Tryz.prog.underlying 153 = some (.array 20 138) := by kernel_rfl
theorem underE : Tryz.prog.underlying 138 = some (.int .u64) := by kernel_rfl
def theLaid : List (String × DataW Unit) := Rows.scriptBackRow.laid
theorem table {W : World} (h1 : laidMet Tryz.prog theLaid W) : Tab W := by
  have h2 := laidMet.filter (fun x => x.1 == "internal/strconv.uint64pow10") h1
  have e : (theLaid.filter fun x => x.1 == "internal/strconv.uint64pow10") = [("internal/strconv.uint64pow10", Lib.tabData .u64 Lib.pow10Tab)] := by kernel_rfl
  rw [e] at h2
  exact Lib.tabIs_of_head (rest := []) gTab gTabType underT underE cellsE cellsT h2
theorem gErr (n : String) (g : Nat) (hg : Tryz.prog.globalNamed n = some g) (ht : (Tryz.prog.globals[g]?).map (·.type) = some 70) (W : World) (text : DataW Unit) (h : laidMet Tryz.prog [(n, .iface "*errors.errorString" text)] W) : ∃ t p, W.var? Tryz.prog n = some #[.iface t p] := by
  obtain ⟨ms, hu⟩ : ∃ ms, Tryz.prog.underlying 70 = some (.interface ms) := by
    have h : (match Tryz.prog.underlying 70 with | some (.interface _) => true | _ => false) = true := by kernel_rfl
    split at h
    · rename_i ms hu; exact ⟨ms, hu⟩
    · cases h
  obtain ⟨ps, ⟨g0, t0, cs0, f0, p0, q0, hg0, ht0, hv0, hd0, hq0, e0⟩, hnd, hrows⟩ := h
  obtain rfl := Option.some.inj (hg.symm.trans hg0)
  obtain rfl := Option.some.inj (ht.symm.trans ht0)
  obtain ⟨fuel', u, v, hcs, _, _⟩ := iface_of_trod hu hd0
  refine ⟨u, v, ?_⟩
  rw [hv0]
  obtain ⟨l0⟩ := cs0
  simp only at hcs
  rw [hcs]
theorem syn_of {W : World} (h1 : laidMet Tryz.prog theLaid W) : ∃ t p, W.var? Tryz.prog "strconv.ErrSyntax" = some #[.iface t p] := by
  have h2 := laidMet.filter (fun x => x.1 == "strconv.ErrSyntax") h1
  exact gErr "strconv.ErrSyntax" 4 (by kernel_rfl) (by kernel_rfl) W _ h2
theorem rng_of {W : World} (h1 : laidMet Tryz.prog theLaid W) : ∃ t p, W.var? Tryz.prog "strconv.ErrRange" = some #[.iface t p] := by
  have h2 := laidMet.filter (fun x => x.1 == "strconv.ErrRange") h1
  exact gErr "strconv.ErrRange" 5 (by kernel_rfl) (by kernel_rfl) W _ h2
/-- What the walks look for among the variables is there. -/
theorem env_of {W : World} (h : laidMetH Tryz.prog theLaid W) (hs : W.ShapedOpen Tryz.prog) : Env W :=
  have h1 : laidMet Tryz.prog theLaid W := (MakeChecks.laidMetH_plain _ _ _ (by kernel_rfl)).mp h
  ⟨table h1, cell_of_shapedOpen_int (zero := #[.int .i64 0]) (t := 3) hs (of_decide_eq_true (by kernel_rfl)) (by kernel_rfl) rfl (by kernel_rfl) (by kernel_rfl) Tryz.underlying3, syn_of h1, rng_of h1⟩

/-- The cells of a datum of numbers. -/
def flat : Nat → DataW Unit → List Value
  | 0, _ => []
  | n + 1, .agg ds => ds.flatMap (flat n)
  | _ + 1, .lit (.int k i) => [.int k i]
  | _ + 1, _ => []
def tabOf (d : DataW Unit) : Obj → Obj
  | .cells _ t frozen => .cells (flat 4 d).toArray t frozen
  | o => o
def errs : Array Obj := #[.cells #[.string (ByteArray.mk #[118, 97, 108, 117, 101, 32, 111, 117, 116, 32, 111, 102, 32, 114, 97, 110, 103, 101])] 168, .cells #[.string (ByteArray.mk #[105, 110, 118, 97, 108, 105, 100, 32, 115, 121, 110, 116, 97, 120])] 168]
noncomputable def low : Nat := (World.holding Tryz.prog default ⟨#[], #[], []⟩).heap.size
noncomputable def errOf (i : Nat) : Obj → Obj
  | .cells _ t frozen => .cells #[.iface 166 (.pointer (some ⟨low + i, 0, none⟩))] t frozen
  | o => o
/-- A world for the witnesses. -/
noncomputable def laidWorld (os : Os) : World :=
  { World.holding Tryz.prog os ⟨errs, #[], []⟩ with heap := ((((((((World.holding Tryz.prog os ⟨errs, #[], []⟩).heap.modify 6 (tabOf Rows.laid_math_bits_deBruijn32tab)).modify 7 (tabOf Rows.laid_math_bits_deBruijn64tab)).modify 1 (tabOf Rows.laid_internal_strconv_uint64pow10)).modify 3 (tabOf Rows.laid_unicode_utf8_acceptRanges)).modify 2 (tabOf Rows.laid_unicode_utf8_first)).modify 5 (errOf 0)).modify 4 (errOf 1)) }
theorem laid_met (os : Os) (args : Array Value) : laidMet Tryz.prog theLaid ((laidWorld os).forCall (fun _ _ => 0) ⟨#[], args, []⟩).memory :=
  laidMet_of_run' 8 (by kernel_rfl) (by kernel_rfl)
end Go.Proofs.YtljbclkbmjjmdaaGreatDoor
