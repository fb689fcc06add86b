/- Numbers as text, and a job's lines: what is written. -/
import Derived.Test.YtljbclkbmjjmdaaDoorS2
import Derived.Test.YtljbclkbmjjmdaaDoorShelf
import Derived.WalkSmall
import Derived.Deep.RegionHeld3
import Derived.Lib.QuietBelow
namespace Go.Proofs.YtljbclkbmjjmdaaDoor
open Go.RowKit Go.Shelf

/-- The table of powers of ten holds them. -/
def Tab (w : World) : Prop := Lib.TabIs Tryd.prog w "internal/strconv.uint64pow10" .u64 Lib.pow10Tab
theorem tab_global : Tryd.prog.globalNamed "internal/strconv.uint64pow10" = some 0 := by kernel_rfl
theorem Tab.mono {w w' : World} (h : Tab w) (hb : Below w.heap.size w w') : Tab w' := by
  unfold Tab Lib.TabIs at *
  have hg : 0 < w.heap.size := by
    rcases Nat.lt_or_ge 0 w.heap.size with h' | h'
    · exact h'
    · unfold World.var? at h
      rw [tab_global, Option.bind_some, Array.getElem?_eq_none h'] at h
      simp at h
  exact var?_below hb tab_global hg h

theorem below_grow (B : Nat) (w : World) (hB : B ≤ w.heap.size) (k : Nat) (os : Array Obj) : Below B w (Sort.grow (w.drewN k) os) :=
  ⟨rfl, rfl, rfl, by show w.heap.size ≤ (w.heap ++ os).size; rw [Array.size_append]; omega, fun i hi => by
    show (w.heap ++ os)[i]? = _
    rw [Array.getElem?_append_left (by omega)]⟩
theorem fmt_int (n : Int) (hn : Wf .i64 n) (w : World) (ht : Tab w) : Calls Tryd.prog 30 #[.int .i64 n, .int .i64 10] w fun e w' => e = .returned (.string ⟨(Lib.itoa n).toArray⟩) ∧ Below w.heap.size w w' := by
  have hn := Wf.i64.1 hn
  refine (Tryd.strconv_FormatInt_10 n hn.1 hn.2 w ht).mono ?_
  rintro e w' ⟨rfl, k, os, rfl⟩
  exact ⟨rfl, below_grow _ _ (Nat.le_refl _) _ _⟩
theorem itoa_int (n : Int) (hn : Wf .i64 n) (w : World) (ht : Tab w) : Calls Tryd.prog 12 #[.int .i64 n] w fun e w' => e = .returned (.string ⟨(Lib.itoa n).toArray⟩) ∧ Below w.heap.size w w' := by
  have hn := Wf.i64.1 hn
  refine (Tryd.strconv_Itoa n hn.1 hn.2 w ht).mono ?_
  rintro e w' ⟨rfl, k, os, rfl⟩
  exact ⟨rfl, below_grow _ _ (Nat.le_refl _) _ _⟩
theorem job_n (n : Int) (hn : Wf .i64 n) (w : World) (ht : Tab w) : Calls Tryd.prog 34 #[.int .i64 n] w fun e w' => e = .returned (.string ⟨(32 :: Lib.itoa n).toArray⟩) ∧ Below w.heap.size w w' := by
  have HC := fun W (h : Below w.heap.size w W) => Lib.hid (fmt_int n hn W (ht.mono h))
  have hl := itoa_len n hn
  clear ht hn
  go_enter Tryd.func34, Tryd.ntmps34
  go_wp2_with (go_at_call 30; refine (HC _ (by (repeat (first | exact Below.refl _ _ | assumption | refine ext_alloc ?_ _ | refine below_drewN ?_ _ | refine ext_drew ?_ | (refine below_tr ?_ (by assumption)))))).out.mono ?_; rintro r w1 ⟨rfl, hb1⟩)
  go_ret
  exact ⟨ret_str (mk_app [32] _), by (repeat (first | exact Below.refl _ _ | assumption | refine ext_alloc ?_ _ | refine below_drewN ?_ _ | refine ext_drew ?_ | (refine below_tr ?_ (by assumption))))⟩
theorem keep8 {b : Nat} {C0 C1 C2 C3 C4 C5 C6 C7 : Value} {w W w1 : World} (h : W.cell? ⟨b, 0, none⟩ = some C0 ∧ W.cell? ⟨b, 1, none⟩ = some C1 ∧ W.cell? ⟨b, 2, none⟩ = some C2 ∧ W.cell? ⟨b, 3, none⟩ = some C3 ∧ W.cell? ⟨b, 4, none⟩ = some C4 ∧ W.cell? ⟨b, 5, none⟩ = some C5 ∧ W.cell? ⟨b, 6, none⟩ = some C6 ∧ W.cell? ⟨b, 7, none⟩ = some C7 ∧ Tab W ∧ Below w.heap.size w W ∧ b < W.heap.size)
    (hb : Below W.heap.size W w1) : w1.cell? ⟨b, 0, none⟩ = some C0 ∧ w1.cell? ⟨b, 1, none⟩ = some C1 ∧ w1.cell? ⟨b, 2, none⟩ = some C2 ∧ w1.cell? ⟨b, 3, none⟩ = some C3 ∧ w1.cell? ⟨b, 4, none⟩ = some C4 ∧ w1.cell? ⟨b, 5, none⟩ = some C5 ∧ w1.cell? ⟨b, 6, none⟩ = some C6 ∧ w1.cell? ⟨b, 7, none⟩ = some C7 ∧ Tab w1 ∧ Below w.heap.size w w1 ∧ b < w1.heap.size := by
  obtain ⟨h0, h1, h2, h3, h4, h5, h6, h7, ht, hB, hs⟩ := h
  have hc := (bcell hb).1
  have := hb.size
  refine ⟨?_, ?_, ?_, ?_, ?_, ?_, ?_, ?_, ht.mono hb, below_tr hB hb, by omega⟩ <;> rw [hc _ _ hs] <;> assumption

theorem num_ref (n : Int) (hn : Wf .i64 n) (w : World) (ht : Tab w) : Calls Tryd.prog 51 #[.int .i64 n] w fun e w' => e = .returned (.string ⟨(Lib.itoa n).toArray⟩) ∧ Below w.heap.size w w' := by
  have HC := fun W (h : Below w.heap.size w W) => Lib.hid (fmt_int n hn W (ht.mono h))
  have hl := itoa_len n hn
  clear ht hn
  go_enter Tryd.func51, Tryd.ntmps51
  go_wp2_with (go_at_call 30; refine (HC _ (by (repeat (first | exact Below.refl _ _ | assumption | refine ext_alloc ?_ _ | refine below_drewN ?_ _ | refine ext_drew ?_ | (refine below_tr ?_ (by assumption)))))).out.mono ?_; rintro r w1 ⟨rfl, hb1⟩)
  go_ret
  exact ⟨rfl, by (repeat (first | exact Below.refl _ _ | assumption | refine ext_alloc ?_ _ | refine below_drewN ?_ _ | refine ext_drew ?_ | (refine below_tr ?_ (by assumption))))⟩
theorem fold_text (k : Int) (hk : foldB k = true) (w : World) : Calls Tryd.prog 52 #[.int .i64 k] w fun e w' => e = .returned (.string ⟨(foldL k).toArray⟩) ∧ Below w.heap.size w w' := by
  have hk : k = 1 ∨ k = 2 ∨ k = 3 ∨ k = 4 ∨ k = 5 := by unfold foldB at hk; simp at hk; omega
  rcases hk with h | h | h | h | h
  all_goals
    subst h
    go_enter Tryd.func52, Tryd.ntmps52
    go_wp2
    go_ret
    exact ⟨rfl, Below.refl _ _⟩
theorem foldL_len (k : Int) : (foldL k).length ≤ 8 := by
  unfold foldL
  repeat' split
  all_goals decide

/-- A struct's box, in whatever world has grown out of its own. -/
theorem box_cell (w : World) (cs : Array Value) (T : TypeId) (i : Nat) (v : Value) (h : cs[i]? = some v) : (w.alloc (.cells cs T)).cell? ⟨w.heap.size, i, none⟩ = some v := by
  simpa using h
set_option maxHeartbeats 2000000 in
set_option maxRecDepth 100000 in
theorem job_text (j : Jb) (hj : j.wf) (hf : foldB j.fold = true) (w : World) (ht : Tab w) : Calls Tryd.prog 29 #[.agg #[.int .i64 j.groups, .int .i64 j.size, .int .i64 j.slide, .int .i64 j.fold, .int .i64 j.fuel, .int .i64 j.limit, .int .i64 j.delay, .int .i64 j.idle]] w fun e w' => e = .returned (.string ⟨(jobL j).toArray⟩) ∧ Below w.heap.size w w' := by
  obtain ⟨j0, j1, j2, j3, j4, j5, j6, j7⟩ := hj
  have l0 := itoa_len _ j0; have l1 := itoa_len _ j1; have l2 := itoa_len _ j2; have l4 := itoa_len _ j4; have l5 := itoa_len _ j5; have l6 := itoa_len _ j6; have l7 := itoa_len _ j7
  have l3 := foldL_len j.fold
  obtain ⟨W, hW⟩ : ∃ W, W = w.alloc (.cells #[.int .i64 j.groups, .int .i64 j.size, .int .i64 j.slide, .int .i64 j.fold, .int .i64 j.fuel, .int .i64 j.limit, .int .i64 j.delay, .int .i64 j.idle] 23) := ⟨_, rfl⟩
  have hbW : Below w.heap.size w W := by rw [hW]; exact (Below.refl _ _).alloc (Nat.le_refl _) _
  have ht1 := ht.mono hbW
  have k0 := cell_regrown (show W.cell? ⟨w.heap.size, 0, none⟩ = some (.int .i64 j.groups) by rw [hW]; exact box_cell _ _ _ _ _ rfl)
  have k1 := cell_regrown (show W.cell? ⟨w.heap.size, 1, none⟩ = some (.int .i64 j.size) by rw [hW]; exact box_cell _ _ _ _ _ rfl)
  have k2 := cell_regrown (show W.cell? ⟨w.heap.size, 2, none⟩ = some (.int .i64 j.slide) by rw [hW]; exact box_cell _ _ _ _ _ rfl)
  have k3 := cell_regrown (show W.cell? ⟨w.heap.size, 3, none⟩ = some (.int .i64 j.fold) by rw [hW]; exact box_cell _ _ _ _ _ rfl)
  have k4 := cell_regrown (show W.cell? ⟨w.heap.size, 4, none⟩ = some (.int .i64 j.fuel) by rw [hW]; exact box_cell _ _ _ _ _ rfl)
  have k5 := cell_regrown (show W.cell? ⟨w.heap.size, 5, none⟩ = some (.int .i64 j.limit) by rw [hW]; exact box_cell _ _ _ _ _ rfl)
  have k6 := cell_regrown (show W.cell? ⟨w.heap.size, 6, none⟩ = some (.int .i64 j.delay) by rw [hW]; exact box_cell _ _ _ _ _ rfl)
  have k7 := cell_regrown (show W.cell? ⟨w.heap.size, 7, none⟩ = some (.int .i64 j.idle) by rw [hW]; exact box_cell _ _ _ _ _ rfl)
  have cNgroups : ∀ d os, Calls Tryd.prog 51 #[.int .i64 j.groups] (Sort.grow (redrawn W d) os) fun e w'' => e = .returned (.string ⟨(Lib.itoa j.groups).toArray⟩) ∧ ∃ p : Regrown, w'' = Sort.grow (redrawn W p.d) p.os := fun d os => Calls.regrown_of (num_ref _ j0 _ (ht1.mono (below_regrown W d os)))
  have cNsize : ∀ d os, Calls Tryd.prog 51 #[.int .i64 j.size] (Sort.grow (redrawn W d) os) fun e w'' => e = .returned (.string ⟨(Lib.itoa j.size).toArray⟩) ∧ ∃ p : Regrown, w'' = Sort.grow (redrawn W p.d) p.os := fun d os => Calls.regrown_of (num_ref _ j1 _ (ht1.mono (below_regrown W d os)))
  have cNslide : ∀ d os, Calls Tryd.prog 51 #[.int .i64 j.slide] (Sort.grow (redrawn W d) os) fun e w'' => e = .returned (.string ⟨(Lib.itoa j.slide).toArray⟩) ∧ ∃ p : Regrown, w'' = Sort.grow (redrawn W p.d) p.os := fun d os => Calls.regrown_of (num_ref _ j2 _ (ht1.mono (below_regrown W d os)))
  have cNlimit : ∀ d os, Calls Tryd.prog 51 #[.int .i64 j.limit] (Sort.grow (redrawn W d) os) fun e w'' => e = .returned (.string ⟨(Lib.itoa j.limit).toArray⟩) ∧ ∃ p : Regrown, w'' = Sort.grow (redrawn W p.d) p.os := fun d os => Calls.regrown_of (num_ref _ j5 _ (ht1.mono (below_regrown W d os)))
  have cNfuel : ∀ d os, Calls Tryd.prog 51 #[.int .i64 j.fuel] (Sort.grow (redrawn W d) os) fun e w'' => e = .returned (.string ⟨(Lib.itoa j.fuel).toArray⟩) ∧ ∃ p : Regrown, w'' = Sort.grow (redrawn W p.d) p.os := fun d os => Calls.regrown_of (num_ref _ j4 _ (ht1.mono (below_regrown W d os)))
  have cNdelay : ∀ d os, Calls Tryd.prog 51 #[.int .i64 j.delay] (Sort.grow (redrawn W d) os) fun e w'' => e = .returned (.string ⟨(Lib.itoa j.delay).toArray⟩) ∧ ∃ p : Regrown, w'' = Sort.grow (redrawn W p.d) p.os := fun d os => Calls.regrown_of (num_ref _ j6 _ (ht1.mono (below_regrown W d os)))
  have cNidle : ∀ d os, Calls Tryd.prog 51 #[.int .i64 j.idle] (Sort.grow (redrawn W d) os) fun e w'' => e = .returned (.string ⟨(Lib.itoa j.idle).toArray⟩) ∧ ∃ p : Regrown, w'' = Sort.grow (redrawn W p.d) p.os := fun d os => Calls.regrown_of (num_ref _ j7 _ (ht1.mono (below_regrown W d os)))
  have cF : ∀ d os, Calls Tryd.prog 52 #[.int .i64 j.fold] (Sort.grow (redrawn W d) os) fun e w'' => e = .returned (.string ⟨(foldL j.fold).toArray⟩) ∧ ∃ p : Regrown, w'' = Sort.grow (redrawn W p.d) p.os := fun d os => Calls.regrown_of (fold_text _ hf _)
  have HW := Lib.hid hW
  clear hf ht ht1 j0 j1 j2 j3 j4 j5 j6 j7
  go_enter Tryd.func29, Tryd.ntmps29
  go_wp2
  rw [← HW.out]
  clear hW
  refine wp_region_quiet_below (by kernel_rfl) (by kernel_rfl) ?_
  repeat (go_big_quiet_step (first | exact cNgroups _ _ | exact cNsize _ _ | exact cNslide _ _ | exact cF _ _ | exact cNlimit _ _ | exact cNfuel _ _ | exact cNdelay _ _ | exact cNidle _ _))
  refine wpQuiet_nil ?_
  intro _ hw'
  obtain ⟨⟨dq, osq⟩, hw''⟩ := hw'
  subst hw''
  go_wp2
  go_ret
  refine ⟨ret_str ?_, below_tr hbW (below_regrown W dq osq)⟩
  unfold jobL
  simp only [mk_app]
  simp
end Go.Proofs.YtljbclkbmjjmdaaDoor
