/- What the reference's parser holds while it reads: words for its memory. -/
import Derived.Test.YtljbclkbmjjmdaaGreatDoorPB
import Derived.Test.YtljbclkbmjjmdaaGreatDoorU2
import Derived.Test.YtljbclkbmjjmdaaGreatDoorU3
import Derived.Test.YtljbclkbmjjmdaaGreatDoorU4
namespace Go.Proofs.YtljbclkbmjjmdaaGreatDoor
open Go.RowKit Go.Shelf
/-- All that stands between two lines. -/
structure L3 (B : Nat) (w0 : World) (bp : Nat) (p : Pl) (vi va : Value) (vl : Value) (ls : List (List UInt8)) (W : World) : Prop where
  below : Below B w0 W
  res : W.heap[B]? = some (.cells (plCells zeroP nilV nilV) 27 (0, 0))
  plan : PlanAt bp p vi va W
  ins : InAt B vi p.inputs W
  acts : ActAt B va p.acts W
  lns : W.ownsRow B 9 1 vl ls.length (ls.map strV)
  hbp : B < bp
theorem L3.rcell {B : Nat} {w0 : World} {bp : Nat} {p : Pl} {vi va vl : Value} {ls : List (List UInt8)} {W : World} (h : L3 B w0 bp p vi va vl ls W) (i : Nat) (v : Value) (hv : (plCells zeroP nilV nilV)[i]? = some v) : W.cell? ⟨B, i, none⟩ = some v ∧ W.frozen? ⟨B, i, none⟩ = false :=
  ⟨by rw [Lib.cell_of_heap h.res]; exact hv, by simp [World.frozen?, h.res]⟩
theorem res_rcell {B : Nat} {W : World} (h : W.heap[B]? = some (.cells (plCells zeroP nilV nilV) 27 (0, 0))) (i : Nat) (v : Value) (hv : (plCells zeroP nilV nilV)[i]? = some v) : W.cell? ⟨B, i, none⟩ = some v ∧ W.frozen? ⟨B, i, none⟩ = false :=
  ⟨by rw [Lib.cell_of_heap h]; exact hv, by simp [World.frozen?, h]⟩
theorem L3.mono {B : Nat} {w0 : World} {bp : Nat} {p : Pl} {vi va vl : Value} {ls : List (List UInt8)} {W W' : World} (h : L3 B w0 bp p vi va vl ls W) (hb : Below W.heap.size W W') (hB : B ≤ W.heap.size) : L3 B w0 bp p vi va vl ls W' := by
  have hk : KeptX (fun _ => False) W W' := KeptX.of_below hb
  have hoff : ∀ T, Off (fun _ => False) T W := fun T => off_of fun g e => e.elim
  exact ⟨h.below.trans (hk.below (fun _ e => e.elim) hB), heap_kept hk h.res id, heap_kept hk h.plan id, h.ins.kept hk (hoff _) (hoff _), h.acts.kept hk (hoff _), row_keptX h.lns hk (hoff _), h.hbp⟩
theorem L3.size {B : Nat} {w0 : World} {bp : Nat} {p : Pl} {vi va vl : Value} {ls : List (List UInt8)} {W : World} (h : L3 B w0 bp p vi va vl ls W) : B ≤ W.heap.size ∧ bp < W.heap.size := by
  have h1 := (Array.getElem?_eq_some_iff.1 h.res).1
  have h2 : bp < W.heap.size := (Array.getElem?_eq_some_iff.1 h.plan).1
  exact ⟨by omega, h2⟩
/-- The workers' number is stored. -/
theorem L3.work {B : Nat} {w0 : World} {bp : Nat} {p : Pl} {vi va vl : Value} {ls : List (List UInt8)} {W : World} (h : L3 B w0 bp p vi va vl ls W) (m : Int) : L3 B w0 bp { p with workers := m } vi va vl ls (W.setCell ⟨bp, 9, none⟩ (.int .i64 m)) := by
  have hbp := h.hbp
  have hk2 : KeptX (fun i => i = bp) W (W.setCell ⟨bp, 9, none⟩ (.int .i64 m)) := KeptX.set _ _ _ rfl
  have hoff : ∀ T, T ≠ 27 → Off (fun i => i = bp) T W := fun T hT => off_of fun g e => ⟨_, _, e ▸ h.plan, Ne.symm hT⟩
  refine ⟨h.below.setCell (by show B ≤ bp; omega) _, heap_kept hk2 h.res (by omega), ?_, h.ins.kept hk2 (hoff _ (by decide)) (hoff _ (by decide)), h.acts.kept hk2 (hoff _ (by decide)), row_keptX h.lns hk2 (hoff _ (by decide)), hbp⟩
  have := heap_setCell_same W bp 9 _ _ (.int .i64 m) h.plan
  exact this
theorem L3.ne_type {B : Nat} {w0 : World} {bp : Nat} {p : Pl} {vi va vl : Value} {ls : List (List UInt8)} {W : World} (h : L3 B w0 bp p vi va vl ls W) {g : Nat} {cur : Array Value} {T : TypeId} (hg : W.heap[g]? = some (.cells cur T (0, 0)))
    (h2 : T ≠ 27) : g ≠ B ∧ g ≠ bp := by
  have key : ∀ b c T', W.heap[b]? = some (.cells c T' (0, 0)) → T ≠ T' → g ≠ b := by
    rintro b c T' hb hne rfl
    rw [hg] at hb
    injection hb with hb
    injection hb with _ hb
    exact hne hb
  exact ⟨key _ _ _ h.res h2, key _ _ _ h.plan h2⟩
/-- A source more. -/
theorem L3.more_in {B : Nat} {w0 : World} {bp : Nat} {p : Pl} {vi va vl vi' ve : Value} {ls : List (List UInt8)} {es : List Ev} {W W1 : World} (h : L3 B w0 bp p vi va vl ls W) (he : EvsAt B W ve es) {vs : List Value} (hr : W.ownsRow B 48 1 vi p.inputs.length vs) (ha : All2 (EvsAt B W) vs p.inputs)
    (hr1 : W1.ownsRow B 48 1 vi' (p.inputs.length + 1) (vs ++ [ve])) (hg : W.grownBy W1 vi.ownBlock) : L3 B w0 bp { p with inputs := p.inputs ++ [es] } vi' va vl ls (W1.setCell ⟨bp, 8, none⟩ vi') := by
  have hbp := h.hbp
  have hk : KeptX (fun i => vi.ownBlock = some i) W W1 := KeptX.of_grown hg (fun g e => e)
  have hne := fun g (e : vi.ownBlock = some g) => h.ne_type (own_type hr e).2.choose_spec (by decide)
  have hev : ∀ v es, EvsAt B W v es → EvsAt B W1 v es := fun v es hv => ⟨row_keptX hv.1 hk (off_of fun g e => ⟨_, _, (own_type hr e).2.choose_spec, by decide⟩), hv.2⟩
  have hp1 : PlanAt bp p vi va W1 := heap_kept hk h.plan (fun e => (hne _ e).2 rfl)
  have hk2 : KeptX (fun i => i = bp) W1 (W1.setCell ⟨bp, 8, none⟩ vi') := KeptX.set _ _ _ rfl
  have hoff : ∀ T, T ≠ 27 → Off (fun i => i = bp) T W1 := fun T hT => off_of fun g e => ⟨_, _, e ▸ hp1, Ne.symm hT⟩
  have hev2 : ∀ v es, EvsAt B W v es → EvsAt B (W1.setCell ⟨bp, 8, none⟩ vi') v es := fun v es hv => ⟨row_keptX (hev v es hv).1 hk2 (hoff _ (by decide)), hv.2⟩
  refine ⟨?_, ?_, ?_, ⟨vs ++ [ve], ?_, ?_⟩, ?_, ?_, hbp⟩
  · exact (h.below.trans (hk.below (fun g e => (own_type hr e).1) h.size.1)).setCell (by show B ≤ bp; omega) _
  · exact heap_kept hk2 (heap_kept hk h.res (fun e => (hne _ e).1 rfl)) (by omega)
  · have := heap_setCell_same W1 bp 8 _ _ vi' hp1
    exact this
  · have := row_keptX hr1 hk2 (hoff _ (by decide))
    simpa using this
  · exact (ha.imp fun v es hv => hev2 v es hv).snoc (hev2 _ _ he)
  · exact (h.acts.kept hk (off_of fun g e => ⟨_, _, (own_type hr e).2.choose_spec, by decide⟩)).kept hk2 (hoff _ (by decide))
  · exact row_keptX (row_keptX h.lns hk (off_of fun g e => ⟨_, _, (own_type hr e).2.choose_spec, by decide⟩)) hk2 (hoff _ (by decide))
/-- An act more. -/
theorem L3.more_act {B : Nat} {w0 : World} {bp : Nat} {p : Pl} {vi va vl va' : Value} {ls : List (List UInt8)} {c : Ac} {W W1 : World} (h : L3 B w0 bp p vi va vl ls W) (hw : c.wf)
    (hr1 : W1.ownsRow B 52 3 va' (p.acts.length + 1) (p.acts.flatMap Ac.cells3 ++ c.cells3)) (hg : W.grownBy W1 va.ownBlock) : L3 B w0 bp { p with acts := p.acts ++ [c] } vi va' vl ls (W1.setCell ⟨bp, 10, none⟩ va') := by
  have hbp := h.hbp
  have hr := h.acts.1
  have hk : KeptX (fun i => va.ownBlock = some i) W W1 := KeptX.of_grown hg (fun g e => e)
  have hne := fun g (e : va.ownBlock = some g) => h.ne_type (own_type hr e).2.choose_spec (by decide)
  have hp1 : PlanAt bp p vi va W1 := heap_kept hk h.plan (fun e => (hne _ e).2 rfl)
  have hk2 : KeptX (fun i => i = bp) W1 (W1.setCell ⟨bp, 10, none⟩ va') := KeptX.set _ _ _ rfl
  have hoff : ∀ T, T ≠ 27 → Off (fun i => i = bp) T W1 := fun T hT => off_of fun g e => ⟨_, _, e ▸ hp1, Ne.symm hT⟩
  refine ⟨?_, ?_, ?_, ?_, ⟨?_, ?_⟩, ?_, hbp⟩
  · exact (h.below.trans (hk.below (fun g e => (own_type hr e).1) h.size.1)).setCell (by show B ≤ bp; omega) _
  · exact heap_kept hk2 (heap_kept hk h.res (fun e => (hne _ e).1 rfl)) (by omega)
  · have := heap_setCell_same W1 bp 10 _ _ va' hp1
    exact this
  · exact (h.ins.kept hk (off_of fun g e => ⟨_, _, (own_type hr e).2.choose_spec, by decide⟩) (off_of fun g e => ⟨_, _, (own_type hr e).2.choose_spec, by decide⟩)).kept hk2 (hoff _ (by decide)) (hoff _ (by decide))
  · have := row_keptX hr1 hk2 (hoff _ (by decide))
    simpa using this
  · intro a ha
    rcases List.mem_append.1 ha with ha | ha
    · exact h.acts.2 a ha
    · rw [List.mem_singleton.1 ha]; exact hw
  · exact row_keptX (row_keptX h.lns hk (off_of fun g e => ⟨_, _, (own_type hr e).2.choose_spec, by decide⟩)) hk2 (hoff _ (by decide))
theorem L3.plan_in {B : Nat} {w0 : World} {bp : Nat} {p : Pl} {vi va vl v : Value} {ls : List (List UInt8)} {W W1 : World} (h : L3 B w0 bp p vi va vl ls W) {k n : Nat} {T : TypeId} {xs : List Value} (hr : W.ownsRow B T k v n xs) (hT : T ≠ 27) (hg : W.grownBy W1 v.ownBlock) : PlanAt bp p vi va W1 := by
  refine heap_kept (KeptX.of_grown (X := fun i => v.ownBlock = some i) hg (fun g e => e)) h.plan (fun e => ?_)
  obtain ⟨_, cur, h1⟩ := own_type hr e
  have h2 := h.plan
  unfold PlanAt at h2
  rw [h1] at h2
  injection h2 with h2
  injection h2 with _ h2
  exact hT h2
theorem plan_ret3 {B : Nat} {W : World} (p : Pl) (vi va : Value) (h : W.heap[B]? = some (.cells (plCells zeroP nilV nilV) 27 (0, 0))) : (((((((((((W.setCell ⟨B, 0, none⟩ (.int .i64 p.job.groups)).setCell ⟨B, 1, none⟩ (.int .i64 p.job.size)).setCell ⟨B, 2, none⟩ (.int .i64 p.job.slide)).setCell ⟨B, 3, none⟩ (.int .i64 p.job.fold)).setCell ⟨B, 4, none⟩ (.int .i64 p.job.fuel)).setCell ⟨B, 5, none⟩ (.int .i64 p.job.limit)).setCell ⟨B, 6, none⟩ (.int .i64 p.job.delay)).setCell ⟨B, 7, none⟩ (.int .i64 p.job.idle)).setCell ⟨B, 8, none⟩ vi).setCell ⟨B, 9, none⟩ (.int .i64 p.workers)).setCell ⟨B, 10, none⟩ va).heap[B]? = some (.cells (plCells p vi va) 27 (0, 0)) :=
  st11_heap _ _ _ _ _ _ _ _ _ _ _ h
theorem plan_end3 {L : List UInt8} {w : World} {bp : Nat} {p : Pl} {vi va vl : Value} {ls : List (List UInt8)} {W : World} (h : L3 w.heap.size w bp p vi va vl ls W) (hr : PlanRun L p 0 0) :
    PlanPost L w (.returned (.tuple #[.agg (plCells p vi va), .int .i64 0, .int .i64 0])) (((((((((((W.setCell ⟨w.heap.size, 0, none⟩ (.int .i64 p.job.groups)).setCell ⟨w.heap.size, 1, none⟩ (.int .i64 p.job.size)).setCell ⟨w.heap.size, 2, none⟩ (.int .i64 p.job.slide)).setCell ⟨w.heap.size, 3, none⟩ (.int .i64 p.job.fold)).setCell ⟨w.heap.size, 4, none⟩ (.int .i64 p.job.fuel)).setCell ⟨w.heap.size, 5, none⟩ (.int .i64 p.job.limit)).setCell ⟨w.heap.size, 6, none⟩ (.int .i64 p.job.delay)).setCell ⟨w.heap.size, 7, none⟩ (.int .i64 p.job.idle)).setCell ⟨w.heap.size, 8, none⟩ vi).setCell ⟨w.heap.size, 9, none⟩ (.int .i64 p.workers)).setCell ⟨w.heap.size, 10, none⟩ va) := by
  have key : ∀ A, KeptX (fun i => i = w.heap.size) W A → ∀ o v, KeptX (fun i => i = w.heap.size) W (A.setCell ⟨w.heap.size, o, none⟩ v) := fun A hA o v => hA.trans (KeptX.set _ _ _ rfl)
  have hk := key _ (key _ (key _ (key _ (key _ (key _ (key _ (key _ (key _ (key _ (key _ (KeptX.refl _ _) 0 (.int .i64 p.job.groups)) 1 (.int .i64 p.job.size)) 2 (.int .i64 p.job.slide)) 3 (.int .i64 p.job.fold)) 4 (.int .i64 p.job.fuel)) 5 (.int .i64 p.job.limit)) 6 (.int .i64 p.job.delay)) 7 (.int .i64 p.job.idle)) 8 vi) 9 (.int .i64 p.workers)) 10 va
  have hoff : ∀ T, T ≠ 27 → Off (fun i => i = w.heap.size) T W := fun T hT => off_of fun g e => ⟨_, _, e ▸ h.res, Ne.symm hT⟩
  exact ⟨p, 0, 0, vi, va, rfl, hr, in_sl (h.ins.kept hk (hoff _ (by decide)) (hoff _ (by decide))), act_sl (h.acts.kept hk (hoff _ (by decide))), h.below.trans (hk.below (fun i hi => by omega) h.below.size)⟩
/-- The words of a line, as they stand. -/
def mkB (a : List UInt8) : ByteArray := ⟨a.toArray⟩
theorem mkB_bytes (a : List UInt8) : bytesL (mkB a) = a := by simp [mkB, bytesL]
theorem strs_sl {B n : Nat} {W : World} {g c : Nat} {ws : List (List UInt8)} (h : W.ownsRow B 9 1 (.slice (some ⟨g, 0, none⟩) n c) n (ws.map strV)) (hw : ∀ a ∈ ws, a.length < 4294967281) : Sl 1 rStr W (.slice (some ⟨g, 0, none⟩) n c) (ws.map mkB) := by
  have hl := h.1
  rw [List.length_map, Nat.mul_one] at hl
  have hcc : n ≤ c ∧ c ≤ 9223372036854775807 := by
    rcases h.2 with ⟨hv, _⟩ | ⟨g', cap, cur, hv, _, _, hc, hm, _⟩
    · cases hv
    · injection hv with _ _ hv
      subst hv
      exact ⟨hc, by unfold maxLen at hm; omega⟩
  refine ⟨some ⟨g, 0, none⟩, c, by rw [List.length_map, hl], ?_, by rw [List.length_map, hl]; exact hcc.1, hcc.2⟩
  intro i x hx
  rw [List.getElem?_map] at hx
  obtain ⟨a, ha, rfl⟩ := Option.map_eq_some_iff.1 hx
  obtain ⟨hi, hai⟩ := List.getElem?_eq_some_iff.1 ha
  obtain ⟨g', hg', hlt, hc⟩ := strs_at h i hi
  injection hg' with hg'
  injection hg' with hg'
  subst hg'
  refine ⟨g, 0, [.string (mkB a)], rfl, hlt, ⟨rfl, ?_⟩, rfl, ?_⟩
  · unfold WfS
    have := hw a (List.mem_of_getElem? ha)
    show (ByteArray.mk a.toArray).size ≤ _
    rw [mk_size]
    omega
  · intro j u hu
    match j, hu with
    | 0, hu =>
      simp at hu
      subst hu
      have h2 := hc
      rw [hai] at h2
      simpa [strV, mkB] using h2
def WordsPost (L : List UInt8) (w : World) (e : Ending) (w' : World) : Prop := ∃ g c y ys, e = .returned (.slice (some ⟨g, 0, none⟩) (ys.length + 1) c) ∧ Below w.heap.size w w' ∧ Sl 1 rStr w' (.slice (some ⟨g, 0, none⟩) (ys.length + 1) c) (y :: ys) ∧ wordsL 32 L = (y :: ys).map bytesL ∧ w'.cell? ⟨g, 0, none⟩ = some (.string y) ∧ ys.length < 4294967281
set_option maxRecDepth 100000 in
theorem words24' (X : ByteArray) (hX : X.size < 4294967281) (w : World) : Calls Tryz.prog 22 #[.string X] w (WordsPost X.data.toList w) := by
  refine (words24 X hX w).mono ?_
  rintro e w' ⟨v, ws, rfl, hb, hr, hw⟩
  have hwl := words_count 32 X.data.toList
  rw [hw, show X.data.toList.length = X.size from bytesL_length X] at hwl
  have hsz : ∀ a ∈ ws, a.length < 4294967281 := fun a ha => by
    have := words_size 32 X.data.toList a (by rw [hw]; exact ha)
    rw [show X.data.toList.length = X.size from bytesL_length X] at this
    omega
  obtain ⟨A, c, rfl⟩ := row_valR hr
  have hne : ws ≠ [] := by rw [← hw]; exact wordsL_ne _ _
  obtain ⟨a, r, rfl⟩ : ∃ a r, ws = a :: r := by
    cases ws with
    | nil => exact absurd rfl hne
    | cons a r => exact ⟨a, r, rfl⟩
  obtain ⟨g, rfl, hg, hc⟩ := strs_at hr 0 (by simp)
  refine ⟨g, c, mkB a, r.map mkB, by simp, hb, ?_, ?_, ?_, ?_⟩
  · have := strs_sl hr hsz
    simpa using this
  · rw [hw]
    simp [mkB_bytes, Function.comp_def]
  · simpa [strV, mkB] using hc
  · rw [List.length_map]
    simp at hwl
    omega
theorem one_less (a b : UInt8) : Op.bytesLess [a] [b] = decide (a.toNat < b.toNat) := by
  by_cases h : a.toNat < b.toNat
  · simp [Op.bytesLess, UInt8.lt_iff_toNat_lt, h]
  · simp [Op.bytesLess, UInt8.lt_iff_toNat_lt, h]
end Go.Proofs.YtljbclkbmjjmdaaGreatDoor
/- The walk of the reference's Parse of a text. -/
namespace Go.Proofs.YtljbclkbmjjmdaaGreatDoor
open Go.RowKit Go.Shelf
theorem head_lit (ls : List (List UInt8)) (B : Nat) (v : Value) (w : World) (hrow : w.ownsRow B 9 1 v ls.length (ls.map strV)) (hN : (headT ls).length < 4294967281) (hn : ls.length < 4294967281) : Calls Tryz.prog 21 #[v] w fun e w' => ∃ x f n, e = .returned (.tuple #[.agg #[.int .i64 x.groups, .int .i64 x.size, .int .i64 x.slide, .int .i64 x.fold, .int .i64 x.fuel, .int .i64 x.limit, .int .i64 x.delay, .int .i64 x.idle], .int .i64 f, .int .i64 n]) ∧ JobRun 1 (headT (ls.take 6)) zeroJ x f n ∧ Below w.heap.size w w' := head24 ls B v w hrow hN hn
theorem headT_len : ∀ (ls : List (List UInt8)) (rest : List UInt8), (headT ls).length + rest.length = (joinC 10 (ls ++ [rest])).length
  | [], rest => by simp [headT, joinC]
  | a :: ls, rest => by
    rw [List.cons_append, joinC_cons _ _ _ (by simp), List.length_append, List.length_cons, ← headT_len ls rest]
    simp [headT]
    omega
theorem one_byte {z : ByteArray} (h : z.size = 1) : ∃ c : UInt8, z = ByteArray.mk #[c] := by
  obtain ⟨d⟩ := z
  have h : d.size = 1 := h
  refine ⟨d[0], ?_⟩
  congr 1
  apply Array.ext
  · simp [h]
  · intro i h1 h2
    simp at h2
    subst h2
    simp
set_option maxHeartbeats 40000000 in
set_option maxRecDepth 100000 in
theorem parse24 (s : ByteArray) (hs : s.size < 4294967281) (w : World) : Calls Tryz.prog 7 #[.string s] w (PlanPost s.data.toList w) := by
  obtain ⟨fs, hu⟩ := plan_struct2
  obtain ⟨L, hL⟩ : ∃ L, L = s.data.toList := ⟨_, rfl⟩
  have hLs : L.length = s.size := by rw [hL]; exact bytesL_length s
  rw [← hL]
  have HLN := fun W => Lib.hid (lines24 s hs W)
  rw [← hL] at HLN
  have HLS := Lib.hid hLs
  have HRES0 := Lib.hid (heap_alloc_new w (.cells #[.int .i64 0, .int .i64 0, .int .i64 0, .int .i64 0, .int .i64 0, .int .i64 0, .int .i64 0, .int .i64 0, .slice none 0 0, .int .i64 0, .slice none 0 0] 27))
  have hb0 : Below w.heap.size w (w.alloc (.cells #[.int .i64 0, .int .i64 0, .int .i64 0, .int .i64 0, .int .i64 0, .int .i64 0, .int .i64 0, .int .i64 0, .slice none 0 0, .int .i64 0, .slice none 0 0] 27)) := by (repeat (first | exact Below.refl _ _ | assumption | refine ext_alloc ?_ _ | refine below_drewN ?_ _ | refine ext_drew ?_ | (refine below_tr ?_ (by assumption))))
  clear hL hLs
  go_enter Tryz.func7, Tryz.ntmps7
  go_wp2_with (go_at_call 20; (with_reducible refine (HLN _).out.mono ?_))
  rintro e w1 ⟨vl, ls, rest, rfl, hb1, hrow, hlines⟩
  obtain ⟨R, hR⟩ : ∃ R, R = ByteArray.mk rest.toArray := ⟨_, rfl⟩
  rw [← hR]
  have hRd : R.data.toList = rest := by rw [hR]
  have HRD := Lib.hid hRd
  clear hR hRd
  have hN : (headT ls).length ≤ s.size := by
    have h1 := headT_len ls rest
    rw [← words_eq hlines, HLS.out] at h1
    omega
  have hn : ls.length ≤ s.size := by
    have h1 := words_count 10 L
    rw [hlines, List.length_append, HLS.out] at h1
    simp at h1
    omega
  have hls : ∀ a ∈ ls, a.length ≤ s.size := fun a ha => by
    have h1 := words_size 10 L a (by rw [hlines]; simp [ha])
    rw [HLS.out] at h1
    exact h1
  obtain ⟨t, hH, hT⟩ := heads_ls 6 (show Lines L ls rest from hlines)
  have HH := Lib.hid (And.intro hH hT)
  have HRES1 := Lib.hid ((hb1.block _ (by simp)).trans HRES0.out)
  have hrow2 := row_lower (C := w.heap.size) hrow (by simp)
  obtain ⟨Al, cl, rfl⟩ := row_valR hrow2
  have HLNS := Lib.hid hrow2
  have hbb := below_tr hb0 hb1
  have HHD := fun W (hW : Below w1.heap.size w1 W) => Lib.hid (head_lit ls w.heap.size _ W (row_belowK HLNS.out hW) (by omega) (by omega))
  have HRB := Lib.hid (show ∀ a ∈ ls, (mkB a).size < 4294967281 from fun a ha => by
    have := hls a ha
    show (ByteArray.mk a.toArray).size < _
    rw [mk_size]
    omega)
  clear hlines hH hT hrow hrow2 hb1 hb0 HLN HRES0 hls hN
  go_wp2_with (go_at_call 21; (with_reducible refine (HHD _ (Below.refl _ _)).out.mono ?_))
  rintro e w2 ⟨x, f, n, rfl, hj, hb2⟩
  have HJR := Lib.hid hj
  have HRES2 := Lib.hid ((hb2.block _ (Array.getElem?_eq_some_iff.1 HRES1.out).1).trans HRES1.out)
  have HLNS2 := Lib.hid (row_belowK HLNS.out hb2)
  have HB2 := Lib.hid (below_tr hbb hb2)
  have hz2 : w.heap.size < w2.heap.size := (Array.getElem?_eq_some_iff.1 HRES2.out).1
  clear hj hbb hb2 HHD HRES1 HLNS
  by_cases hf : f = 0
  rotate_left
  · have hfb : (f != 0) = true := by rw [bne_iff_ne]; exact hf
    have HRUN := Lib.hid (PlanRun.job L _ _ x f n HH.out.1 HJR.out hf)
    clear hf
    have hq1 : w.heap.size ≠ w2.heap.size := by omega
    have d0 := (res_rcell HRES2.out 0 (.int .i64 0) rfl).1
    have u0 := (res_rcell HRES2.out 0 (.int .i64 0) rfl).2
    have d1 := (res_rcell HRES2.out 1 (.int .i64 0) rfl).1
    have u1 := (res_rcell HRES2.out 1 (.int .i64 0) rfl).2
    have d2 := (res_rcell HRES2.out 2 (.int .i64 0) rfl).1
    have u2 := (res_rcell HRES2.out 2 (.int .i64 0) rfl).2
    have d3 := (res_rcell HRES2.out 3 (.int .i64 0) rfl).1
    have u3 := (res_rcell HRES2.out 3 (.int .i64 0) rfl).2
    have d4 := (res_rcell HRES2.out 4 (.int .i64 0) rfl).1
    have u4 := (res_rcell HRES2.out 4 (.int .i64 0) rfl).2
    have d5 := (res_rcell HRES2.out 5 (.int .i64 0) rfl).1
    have u5 := (res_rcell HRES2.out 5 (.int .i64 0) rfl).2
    have d6 := (res_rcell HRES2.out 6 (.int .i64 0) rfl).1
    have u6 := (res_rcell HRES2.out 6 (.int .i64 0) rfl).2
    have d7 := (res_rcell HRES2.out 7 (.int .i64 0) rfl).1
    have u7 := (res_rcell HRES2.out 7 (.int .i64 0) rfl).2
    have d8 := (res_rcell HRES2.out 8 (.slice none 0 0) rfl).1
    have u8 := (res_rcell HRES2.out 8 (.slice none 0 0) rfl).2
    have d9 := (res_rcell HRES2.out 9 (.int .i64 0) rfl).1
    have u9 := (res_rcell HRES2.out 9 (.int .i64 0) rfl).2
    have d10 := (res_rcell HRES2.out 10 (.slice none 0 0) rfl).1
    have u10 := (res_rcell HRES2.out 10 (.slice none 0 0) rfl).2
    go_wp2_with fail
    refine bodyPost_ret (results_cell_tmp2_row rfl _ _ w.heap.size _ (plCells zeroP nilV nilV) (0, 0) (.struct fs) rfl (heap_alloc_keep _ (plan_ret3 zeroP nilV nilV HRES2.out)) hu rfl plan_info2) rfl ?_
    exact plan_zero HRUN.out (by refine ext_alloc ?_ _; (repeat (with_reducible refine ext_setCell ?_ (Nat.le_refl _) _)); exact HB2.out)
  subst hf
  by_cases h7 : ls.length < 7
  · have HRUN := Lib.hid (PlanRun.seven L _ _ x n HH.out.1 HJR.out (fun a b m hc _ => by
      have h1 := HH.out.2
      rw [List.drop_eq_nil_of_le (by omega)] at h1
      exact (lines_nil h1).2 a b hc))
    have hq1 : w.heap.size ≠ w2.heap.size := by omega
    have d0 := (res_rcell HRES2.out 0 (.int .i64 0) rfl).1
    have u0 := (res_rcell HRES2.out 0 (.int .i64 0) rfl).2
    have d1 := (res_rcell HRES2.out 1 (.int .i64 0) rfl).1
    have u1 := (res_rcell HRES2.out 1 (.int .i64 0) rfl).2
    have d2 := (res_rcell HRES2.out 2 (.int .i64 0) rfl).1
    have u2 := (res_rcell HRES2.out 2 (.int .i64 0) rfl).2
    have d3 := (res_rcell HRES2.out 3 (.int .i64 0) rfl).1
    have u3 := (res_rcell HRES2.out 3 (.int .i64 0) rfl).2
    have d4 := (res_rcell HRES2.out 4 (.int .i64 0) rfl).1
    have u4 := (res_rcell HRES2.out 4 (.int .i64 0) rfl).2
    have d5 := (res_rcell HRES2.out 5 (.int .i64 0) rfl).1
    have u5 := (res_rcell HRES2.out 5 (.int .i64 0) rfl).2
    have d6 := (res_rcell HRES2.out 6 (.int .i64 0) rfl).1
    have u6 := (res_rcell HRES2.out 6 (.int .i64 0) rfl).2
    have d7 := (res_rcell HRES2.out 7 (.int .i64 0) rfl).1
    have u7 := (res_rcell HRES2.out 7 (.int .i64 0) rfl).2
    have d8 := (res_rcell HRES2.out 8 (.slice none 0 0) rfl).1
    have u8 := (res_rcell HRES2.out 8 (.slice none 0 0) rfl).2
    have d9 := (res_rcell HRES2.out 9 (.int .i64 0) rfl).1
    have u9 := (res_rcell HRES2.out 9 (.int .i64 0) rfl).2
    have d10 := (res_rcell HRES2.out 10 (.slice none 0 0) rfl).1
    have u10 := (res_rcell HRES2.out 10 (.slice none 0 0) rfl).2
    go_wp2_with fail
    refine bodyPost_ret (results_cell_tmp2_row rfl _ _ w.heap.size _ (plCells zeroP nilV nilV) (0, 0) (.struct fs) rfl (heap_alloc_keep _ (plan_ret3 zeroP nilV nilV HRES2.out)) hu rfl plan_info2) rfl ?_
    exact plan_zero HRUN.out (by refine ext_alloc ?_ _; (repeat (with_reducible refine ext_setCell ?_ (Nat.le_refl _) _)); exact HB2.out)
  obtain ⟨W, hW⟩ : ∃ W, W = (w2.alloc (.cells #[.int .i64 x.groups, .int .i64 x.size, .int .i64 x.slide, .int .i64 x.fold, .int .i64 x.fuel, .int .i64 x.limit, .int .i64 x.delay, .int .i64 x.idle] 23)).alloc (.cells #[.int .i64 x.groups, .int .i64 x.size, .int .i64 x.slide, .int .i64 x.fold, .int .i64 x.fuel, .int .i64 x.limit, .int .i64 x.delay, .int .i64 x.idle, .slice none 0 0, .int .i64 0, .slice none 0 0] 27) := ⟨_, rfl⟩
  have hbW : Below w2.heap.size w2 W := by rw [hW]; exact ext_alloc (ext_alloc (Below.refl _ _) _) _
  obtain ⟨gl, rfl, hgl, hcl⟩ := strs_at HLNS2.out 6 (by omega)
  have hL3 : L3 w.heap.size w (w2.heap.size + 1) ⟨x, [], 0, []⟩ nilV nilV (.slice (some ⟨gl, 0, none⟩) ls.length cl) ls W :=
    ⟨below_tr HB2.out hbW, (hbW.block _ hz2).trans HRES2.out, by rw [hW]; exact heap_alloc_new' (by simp) _, ⟨[], ⟨rfl, .inl ⟨rfl, rfl⟩⟩, trivial⟩, ⟨⟨rfl, .inl ⟨rfl, rfl⟩⟩, fun a ha => by simp at ha⟩, row_belowK HLNS2.out hbW, by omega⟩
  obtain ⟨X, hX⟩ : ∃ X, X = mkB ls[6] := ⟨_, rfl⟩
  have f0 : w2.cell? ⟨gl, 6, none⟩ = some (.string X) := by rw [hX]; exact hcl
  obtain ⟨a, ha⟩ : ∃ a, a = ls[6] := ⟨_, rfl⟩
  have hXa : X.data.toList = a := by rw [hX, ha]; rfl
  obtain ⟨b, hcut, hTb⟩ := lines_cons (show Lines t (a :: ls.drop 7) rest from by rw [ha, ← List.drop_eq_getElem_cons (by omega)]; exact HH.out.2)
  have HCUT := Lib.hid (And.intro hcut hTb)
  have HWD := Lib.hid (words24' X (by rw [hX]; exact HRB.out _ (List.getElem_mem _)) W)
  rw [hXa] at HWD
  have HW := Lib.hid hW
  have HL3 := Lib.hid hL3
  have hne1 : gl ≠ w2.heap.size := by omega
  have hne2 : gl ≠ w2.heap.size + 1 := by omega
  have hq1 : w.heap.size ≠ w2.heap.size := by omega
  have hi6 : (6 : Int) < ls.length := by omega
  clear hW hL3 hcl hX ha hXa hcut hTb hbW HRES2 HLNS2
  go_wp2_with fail
  rw [show (w2.alloc (.cells #[.int .i64 x.groups, .int .i64 x.size, .int .i64 x.slide, .int .i64 x.fold, .int .i64 x.fuel, .int .i64 x.limit, .int .i64 x.delay, .int .i64 x.idle] 23)).alloc (.cells #[.int .i64 x.groups, .int .i64 x.size, .int .i64 x.slide, .int .i64 x.fold, .int .i64 x.fuel, .int .i64 x.limit, .int .i64 x.delay, .int .i64 x.idle, .slice none 0 0, .int .i64 0, .slice none 0 0] 27) = W from HW.out.symm]
  (with_reducible refine HWD.out.mono ?_)
  rintro e w3 ⟨g, c, y, ys, rfl, hb3, hsl, hws, hyz, hyn⟩
  clear HW f0
  have HL4 := Lib.hid (HL3.out.mono hb3 HL3.out.size.1)
  have HWS := Lib.hid hws
  have HSL := Lib.hid hsl
  have hbp := HL4.out.size.2
  clear hb3 hsl hws HL3 HWD
  by_cases hlen : ys.length = 1
  rotate_left
  · have hl2 : ((ys.length : Int) + 1 != 2) = true := by rw [bne_iff_ne]; omega
    have HRUN := Lib.hid (PlanRun.seven L _ _ x n HH.out.1 HJR.out (fun a' b' m' hc hw => by
      obtain ⟨rfl, rfl⟩ := HCUT.out.1.eq hc
      obtain ⟨c1, ex, h1, h8⟩ := work_only hw
      rw [HWS.out] at ex
      have := congrArg List.length ex
      simp at this
      exact hlen (by rw [this])))
    clear hlen
    have d0 := (res_rcell HL4.out.res 0 (.int .i64 0) rfl).1
    have u0 := (res_rcell HL4.out.res 0 (.int .i64 0) rfl).2
    have d1 := (res_rcell HL4.out.res 1 (.int .i64 0) rfl).1
    have u1 := (res_rcell HL4.out.res 1 (.int .i64 0) rfl).2
    have d2 := (res_rcell HL4.out.res 2 (.int .i64 0) rfl).1
    have u2 := (res_rcell HL4.out.res 2 (.int .i64 0) rfl).2
    have d3 := (res_rcell HL4.out.res 3 (.int .i64 0) rfl).1
    have u3 := (res_rcell HL4.out.res 3 (.int .i64 0) rfl).2
    have d4 := (res_rcell HL4.out.res 4 (.int .i64 0) rfl).1
    have u4 := (res_rcell HL4.out.res 4 (.int .i64 0) rfl).2
    have d5 := (res_rcell HL4.out.res 5 (.int .i64 0) rfl).1
    have u5 := (res_rcell HL4.out.res 5 (.int .i64 0) rfl).2
    have d6 := (res_rcell HL4.out.res 6 (.int .i64 0) rfl).1
    have u6 := (res_rcell HL4.out.res 6 (.int .i64 0) rfl).2
    have d7 := (res_rcell HL4.out.res 7 (.int .i64 0) rfl).1
    have u7 := (res_rcell HL4.out.res 7 (.int .i64 0) rfl).2
    have d8 := (res_rcell HL4.out.res 8 (.slice none 0 0) rfl).1
    have u8 := (res_rcell HL4.out.res 8 (.slice none 0 0) rfl).2
    have d9 := (res_rcell HL4.out.res 9 (.int .i64 0) rfl).1
    have u9 := (res_rcell HL4.out.res 9 (.int .i64 0) rfl).2
    have d10 := (res_rcell HL4.out.res 10 (.slice none 0 0) rfl).1
    have u10 := (res_rcell HL4.out.res 10 (.slice none 0 0) rfl).2
    go_wp2_with fail
    refine bodyPost_ret (results_cell_tmp2_row rfl _ _ w.heap.size _ (plCells zeroP nilV nilV) (0, 0) (.struct fs) rfl (plan_ret3 zeroP nilV nilV HL4.out.res) hu rfl plan_info2) rfl ?_
    exact plan_zero HRUN.out (by (repeat (with_reducible refine ext_setCell ?_ (Nat.le_refl _) _)); exact HL4.out.below)
  obtain ⟨z, rfl⟩ := List.length_eq_one_iff.1 hlen
  have hzc : w3.cell? ⟨g, 1, none⟩ = some (.string z) := by
    obtain ⟨A, c', hv, hsl', _⟩ := HSL.out
    injection hv with hv1 _ _
    subst hv1
    obtain ⟨b', o', z', hA, hz2, ⟨hz3, hzw⟩, hcz⟩ := hsl'.one 1 (by simp)
    injection hA with hA
    injection hA with q1 q2
    subst q1 q2
    injection hz3 with hz3
    subst hz3
    simpa using hcz
  clear hlen
  by_cases hy : bytesL y = workersWord
  rotate_left
  · have hyb : (y.toList == [119, 111, 114, 107, 101, 114, 115]) = false := by rw [ByteArray.toList_eq, beq_eq_false_iff_ne]; exact hy
    have HRUN := Lib.hid (PlanRun.seven L _ _ x n HH.out.1 HJR.out (fun a' b' m' hc hw => by
      obtain ⟨rfl, rfl⟩ := HCUT.out.1.eq hc
      obtain ⟨c1, ex, h1, h8⟩ := work_only hw
      rw [HWS.out] at ex
      injection ex with ex _
      exact hy ex))
    clear hy
    have d0 := (res_rcell HL4.out.res 0 (.int .i64 0) rfl).1
    have u0 := (res_rcell HL4.out.res 0 (.int .i64 0) rfl).2
    have d1 := (res_rcell HL4.out.res 1 (.int .i64 0) rfl).1
    have u1 := (res_rcell HL4.out.res 1 (.int .i64 0) rfl).2
    have d2 := (res_rcell HL4.out.res 2 (.int .i64 0) rfl).1
    have u2 := (res_rcell HL4.out.res 2 (.int .i64 0) rfl).2
    have d3 := (res_rcell HL4.out.res 3 (.int .i64 0) rfl).1
    have u3 := (res_rcell HL4.out.res 3 (.int .i64 0) rfl).2
    have d4 := (res_rcell HL4.out.res 4 (.int .i64 0) rfl).1
    have u4 := (res_rcell HL4.out.res 4 (.int .i64 0) rfl).2
    have d5 := (res_rcell HL4.out.res 5 (.int .i64 0) rfl).1
    have u5 := (res_rcell HL4.out.res 5 (.int .i64 0) rfl).2
    have d6 := (res_rcell HL4.out.res 6 (.int .i64 0) rfl).1
    have u6 := (res_rcell HL4.out.res 6 (.int .i64 0) rfl).2
    have d7 := (res_rcell HL4.out.res 7 (.int .i64 0) rfl).1
    have u7 := (res_rcell HL4.out.res 7 (.int .i64 0) rfl).2
    have d8 := (res_rcell HL4.out.res 8 (.slice none 0 0) rfl).1
    have u8 := (res_rcell HL4.out.res 8 (.slice none 0 0) rfl).2
    have d9 := (res_rcell HL4.out.res 9 (.int .i64 0) rfl).1
    have u9 := (res_rcell HL4.out.res 9 (.int .i64 0) rfl).2
    have d10 := (res_rcell HL4.out.res 10 (.slice none 0 0) rfl).1
    have u10 := (res_rcell HL4.out.res 10 (.slice none 0 0) rfl).2
    go_wp2_with fail
    refine bodyPost_ret (results_cell_tmp2_row rfl _ _ w.heap.size _ (plCells zeroP nilV nilV) (0, 0) (.struct fs) rfl (plan_ret3 zeroP nilV nilV HL4.out.res) hu rfl plan_info2) rfl ?_
    exact plan_zero HRUN.out (by (repeat (with_reducible refine ext_setCell ?_ (Nat.le_refl _) _)); exact HL4.out.below)
  obtain rfl : y = ByteArray.mk #[119, 111, 114, 107, 101, 114, 115] := ba_ext hy
  clear hy
  by_cases hz1 : z.size = 1
  rotate_left
  · have hz1b : ((z.size : Int) != 1) = true := by rw [bne_iff_ne]; omega
    have HRUN := Lib.hid (PlanRun.seven L _ _ x n HH.out.1 HJR.out (fun a' b' m' hc hw => by
      obtain ⟨rfl, rfl⟩ := HCUT.out.1.eq hc
      obtain ⟨c1, ex, h1, h8⟩ := work_only hw
      rw [HWS.out] at ex
      injection ex with _ ex
      injection ex with ex _
      have := congrArg List.length ex
      rw [show (bytesL z).length = z.size from bytesL_length z] at this
      exact hz1 this))
    clear hz1
    have d0 := (res_rcell HL4.out.res 0 (.int .i64 0) rfl).1
    have u0 := (res_rcell HL4.out.res 0 (.int .i64 0) rfl).2
    have d1 := (res_rcell HL4.out.res 1 (.int .i64 0) rfl).1
    have u1 := (res_rcell HL4.out.res 1 (.int .i64 0) rfl).2
    have d2 := (res_rcell HL4.out.res 2 (.int .i64 0) rfl).1
    have u2 := (res_rcell HL4.out.res 2 (.int .i64 0) rfl).2
    have d3 := (res_rcell HL4.out.res 3 (.int .i64 0) rfl).1
    have u3 := (res_rcell HL4.out.res 3 (.int .i64 0) rfl).2
    have d4 := (res_rcell HL4.out.res 4 (.int .i64 0) rfl).1
    have u4 := (res_rcell HL4.out.res 4 (.int .i64 0) rfl).2
    have d5 := (res_rcell HL4.out.res 5 (.int .i64 0) rfl).1
    have u5 := (res_rcell HL4.out.res 5 (.int .i64 0) rfl).2
    have d6 := (res_rcell HL4.out.res 6 (.int .i64 0) rfl).1
    have u6 := (res_rcell HL4.out.res 6 (.int .i64 0) rfl).2
    have d7 := (res_rcell HL4.out.res 7 (.int .i64 0) rfl).1
    have u7 := (res_rcell HL4.out.res 7 (.int .i64 0) rfl).2
    have d8 := (res_rcell HL4.out.res 8 (.slice none 0 0) rfl).1
    have u8 := (res_rcell HL4.out.res 8 (.slice none 0 0) rfl).2
    have d9 := (res_rcell HL4.out.res 9 (.int .i64 0) rfl).1
    have u9 := (res_rcell HL4.out.res 9 (.int .i64 0) rfl).2
    have d10 := (res_rcell HL4.out.res 10 (.slice none 0 0) rfl).1
    have u10 := (res_rcell HL4.out.res 10 (.slice none 0 0) rfl).2
    go_wp2_with fail
    refine bodyPost_ret (results_cell_tmp2_row rfl _ _ w.heap.size _ (plCells zeroP nilV nilV) (0, 0) (.struct fs) rfl (plan_ret3 zeroP nilV nilV HL4.out.res) hu rfl plan_info2) rfl ?_
    exact plan_zero HRUN.out (by (repeat (with_reducible refine ext_setCell ?_ (Nat.le_refl _) _)); exact HL4.out.below)
  obtain ⟨ch, hch⟩ := one_byte hz1
  have hzl : z.toList = [ch] := by rw [ByteArray.toList_eq, hch]
  have hz0 : z[0]'(by omega) = ch := by subst hch; rfl
  have hzlt := one_less ch 49
  have hzgt := one_less ch 56
  rw [← hzl] at hzlt hzgt
  have HZL := Lib.hid (show bytesL z = [ch] from by rw [hch]; rfl)
  have HZ0 := Lib.hid hz0
  have HZT := Lib.hid hzl
  have hzs : 0 < z.size := by omega
  clear hch hzl hz0
  by_cases hc1 : ch.toNat < 49
  · have hlt1 : Op.bytesLess z.toList [49] = true := by rw [hzlt]; simp; exact hc1
    have HRUN := Lib.hid (PlanRun.seven L _ _ x n HH.out.1 HJR.out (fun a' b' m' hc hw => by
      obtain ⟨rfl, rfl⟩ := HCUT.out.1.eq hc
      obtain ⟨c1, ex, h1, h8⟩ := work_only hw
      rw [HWS.out] at ex
      injection ex with _ ex
      injection ex with ex _
      rw [HZL.out] at ex
      injection ex with ex _
      subst ex
      omega))
    clear hzlt hzgt
    have d0 := (res_rcell HL4.out.res 0 (.int .i64 0) rfl).1
    have u0 := (res_rcell HL4.out.res 0 (.int .i64 0) rfl).2
    have d1 := (res_rcell HL4.out.res 1 (.int .i64 0) rfl).1
    have u1 := (res_rcell HL4.out.res 1 (.int .i64 0) rfl).2
    have d2 := (res_rcell HL4.out.res 2 (.int .i64 0) rfl).1
    have u2 := (res_rcell HL4.out.res 2 (.int .i64 0) rfl).2
    have d3 := (res_rcell HL4.out.res 3 (.int .i64 0) rfl).1
    have u3 := (res_rcell HL4.out.res 3 (.int .i64 0) rfl).2
    have d4 := (res_rcell HL4.out.res 4 (.int .i64 0) rfl).1
    have u4 := (res_rcell HL4.out.res 4 (.int .i64 0) rfl).2
    have d5 := (res_rcell HL4.out.res 5 (.int .i64 0) rfl).1
    have u5 := (res_rcell HL4.out.res 5 (.int .i64 0) rfl).2
    have d6 := (res_rcell HL4.out.res 6 (.int .i64 0) rfl).1
    have u6 := (res_rcell HL4.out.res 6 (.int .i64 0) rfl).2
    have d7 := (res_rcell HL4.out.res 7 (.int .i64 0) rfl).1
    have u7 := (res_rcell HL4.out.res 7 (.int .i64 0) rfl).2
    have d8 := (res_rcell HL4.out.res 8 (.slice none 0 0) rfl).1
    have u8 := (res_rcell HL4.out.res 8 (.slice none 0 0) rfl).2
    have d9 := (res_rcell HL4.out.res 9 (.int .i64 0) rfl).1
    have u9 := (res_rcell HL4.out.res 9 (.int .i64 0) rfl).2
    have d10 := (res_rcell HL4.out.res 10 (.slice none 0 0) rfl).1
    have u10 := (res_rcell HL4.out.res 10 (.slice none 0 0) rfl).2
    go_wp2_with fail
    refine bodyPost_ret (results_cell_tmp2_row rfl _ _ w.heap.size _ (plCells zeroP nilV nilV) (0, 0) (.struct fs) rfl (plan_ret3 zeroP nilV nilV HL4.out.res) hu rfl plan_info2) rfl ?_
    exact plan_zero HRUN.out (by (repeat (with_reducible refine ext_setCell ?_ (Nat.le_refl _) _)); exact HL4.out.below)
  have hlt1 : Op.bytesLess z.toList [49] = false := by rw [hzlt]; simp; omega
  by_cases hc8 : 56 < ch.toNat
  · have hgt1 : Op.bytesLess z.toList [56] = false := by rw [hzgt]; simp; omega
    have hge1 : (z.toList == [56]) = false := by rw [HZT.out, beq_eq_false_iff_ne]; intro h; injection h with h _; subst h; exact absurd hc8 (by decide)
    have HRUN := Lib.hid (PlanRun.seven L _ _ x n HH.out.1 HJR.out (fun a' b' m' hc hw => by
      obtain ⟨rfl, rfl⟩ := HCUT.out.1.eq hc
      obtain ⟨c1, ex, h1, h8⟩ := work_only hw
      rw [HWS.out] at ex
      injection ex with _ ex
      injection ex with ex _
      rw [HZL.out] at ex
      injection ex with ex _
      subst ex
      omega))
    clear hzlt hzgt
    have d0 := (res_rcell HL4.out.res 0 (.int .i64 0) rfl).1
    have u0 := (res_rcell HL4.out.res 0 (.int .i64 0) rfl).2
    have d1 := (res_rcell HL4.out.res 1 (.int .i64 0) rfl).1
    have u1 := (res_rcell HL4.out.res 1 (.int .i64 0) rfl).2
    have d2 := (res_rcell HL4.out.res 2 (.int .i64 0) rfl).1
    have u2 := (res_rcell HL4.out.res 2 (.int .i64 0) rfl).2
    have d3 := (res_rcell HL4.out.res 3 (.int .i64 0) rfl).1
    have u3 := (res_rcell HL4.out.res 3 (.int .i64 0) rfl).2
    have d4 := (res_rcell HL4.out.res 4 (.int .i64 0) rfl).1
    have u4 := (res_rcell HL4.out.res 4 (.int .i64 0) rfl).2
    have d5 := (res_rcell HL4.out.res 5 (.int .i64 0) rfl).1
    have u5 := (res_rcell HL4.out.res 5 (.int .i64 0) rfl).2
    have d6 := (res_rcell HL4.out.res 6 (.int .i64 0) rfl).1
    have u6 := (res_rcell HL4.out.res 6 (.int .i64 0) rfl).2
    have d7 := (res_rcell HL4.out.res 7 (.int .i64 0) rfl).1
    have u7 := (res_rcell HL4.out.res 7 (.int .i64 0) rfl).2
    have d8 := (res_rcell HL4.out.res 8 (.slice none 0 0) rfl).1
    have u8 := (res_rcell HL4.out.res 8 (.slice none 0 0) rfl).2
    have d9 := (res_rcell HL4.out.res 9 (.int .i64 0) rfl).1
    have u9 := (res_rcell HL4.out.res 9 (.int .i64 0) rfl).2
    have d10 := (res_rcell HL4.out.res 10 (.slice none 0 0) rfl).1
    have u10 := (res_rcell HL4.out.res 10 (.slice none 0 0) rfl).2
    go_wp2_with fail
    refine bodyPost_ret (results_cell_tmp2_row rfl _ _ w.heap.size _ (plCells zeroP nilV nilV) (0, 0) (.struct fs) rfl (plan_ret3 zeroP nilV nilV HL4.out.res) hu rfl plan_info2) rfl ?_
    exact plan_zero HRUN.out (by (repeat (with_reducible refine ext_setCell ?_ (Nat.le_refl _) _)); exact HL4.out.below)
  have hng : ¬ ((!Op.bytesLess z.toList [56]) = true ∧ (!z.toList == [56]) = true) := by
    rintro ⟨h1, h2⟩
    rw [hzgt] at h1
    have h3 : ¬ ch.toNat < 56 := by simpa using h1
    have h4 : ch = 56 := UInt8.toNat_inj.1 (show ch.toNat = 56 by omega)
    rw [HZT.out, h4] at h2
    exact absurd h2 (by decide)
  have HWK : Hid (WorkIs a ((ch.toNat : Int) - 48)) := Lib.hid (work_one (by rw [HWS.out]; show [_, bytesL z] = _; rw [HZL.out]; rfl) (by omega) (by omega))
  obtain ⟨m, hm⟩ : ∃ m, m = (ch.toNat : Int) - 48 := ⟨_, rfl⟩
  have k9 : w3.cell? ⟨w2.heap.size + 1, 9, none⟩ = some (.int .i64 0) := (HL4.out.plan.cell 9 _ rfl).1
  have f9 : w3.frozen? ⟨w2.heap.size + 1, 9, none⟩ = false := (HL4.out.plan.cell 9 _ rfl).2
  have HL5 := Lib.hid (HL4.out.work m)
  have HRUN := Lib.hid (fun x' e' k' (hr : ScrRun 7 b ⟨x, [], m, []⟩ x' e' k') => PlanRun.go L _ _ a b x n m x' e' k' HH.out.1 HJR.out HCUT.out.1 (by rw [hm]; exact HWK.out) hr)
  have HTB := Lib.hid HCUT.out.2
  have hzz : z[0]'(by omega) = ch := HZ0.out
  subst hm
  clear hzlt hzgt HL4
  go_wp2_with fail
  go_loopw [12] (fun v12 wr => ∃ (i : Nat) (p : Pl) (vi va : Value) (l : List UInt8), 7 ≤ i ∧ i ≤ ls.length ∧ v12 = .int .i64 i ∧ Hid (L3 w.heap.size w (w2.heap.size + 1) p vi va (.slice (some ⟨gl, 0, none⟩) ls.length cl) ls wr) ∧ p.inputs.length ≤ 4 ∧ p.acts.length ≤ 400 ∧ Hid (Lines l (ls.drop i) rest) ∧ Hid (∀ x' e' k', ScrRun i l p x' e' k' → PlanRun L x' e' k')) (fun v12 _ => ls.length - (intOf v12).toNat)
  case atStart => exact ⟨7, _, _, _, b, by omega, by omega, rfl, HL5, by simp, by simp, HTB, HRUN⟩
  case round =>
   clear HRUN HTB HL5 HWK k9 f9 hzz hyz hzc HSL HWS HCUT HH HJR HB2
   obtain ⟨i, p, vi, va, l, hi7, hil, rfl, hl3, hpi, hpa, hlin, hrun⟩ := hrel
   obtain ⟨Ai, ci, rfl⟩ := hl3.out.ins.val
   obtain ⟨Aa, ca, rfl⟩ := hl3.out.acts.val
   by_cases hlt : i < ls.length
   · obtain ⟨g0, hg0, hgl2, hcl⟩ := strs_at hl3.out.lns i hlt
     injection hg0 with hg0
     injection hg0 with hg0
     subst hg0
     obtain ⟨Xi, hXi⟩ : ∃ Xi, Xi = mkB ls[i] := ⟨_, rfl⟩
     have f0 : wr.cell? ⟨gl, i, none⟩ = some (.string Xi) := by rw [hXi]; exact hcl
     obtain ⟨a2, ha2⟩ : ∃ a2, a2 = ls[i] := ⟨_, rfl⟩
     have hXa : Xi.data.toList = a2 := by rw [hXi, ha2]; rfl
     obtain ⟨b2, hcut, hTb⟩ := lines_cons (show Lines l (a2 :: ls.drop (i + 1)) rest from by rw [ha2, ← List.drop_eq_getElem_cons hlt]; exact hlin.out)
     have HCUT := Lib.hid hcut
     have HTB := Lib.hid hTb
     have HWD := Lib.hid (words24' Xi (by rw [hXi]; exact HRB.out _ (List.getElem_mem _)) wr)
     rw [hXa] at HWD
     clear hcl hXi ha2 hXa hcut hTb hlin
     go_wp2_with (go_at_call 22; (with_reducible refine HWD.out.mono ?_))
     rintro e w4 ⟨g2, c2, y, ys, rfl, hb3, hsl, hws, hyz, hyn⟩
     have HL6 := Lib.hid (hl3.out.mono hb3 hl3.out.size.1)
     have HWS := Lib.hid hws
     have HSL := Lib.hid hsl
     have k8 : w4.cell? ⟨w2.heap.size + 1, 8, none⟩ = some (.slice Ai p.inputs.length ci) := (HL6.out.plan.cell 8 _ rfl).1
     have k10 : w4.cell? ⟨w2.heap.size + 1, 10, none⟩ = some (.slice Aa p.acts.length ca) := (HL6.out.plan.cell 10 _ rfl).1
     have hcap : ys.length + 1 ≤ c2 ∧ c2 ≤ 9223372036854775807 := by
       obtain ⟨A, c', hv, _, h1, h2⟩ := hsl
       injection hv with _ _ hv
       subst hv
       exact ⟨by simpa using h1, h2⟩
     clear hb3 hsl hws f0 HWD hl3
     by_cases hsrc : bytesL y = srcWord ∧ p.acts.length = 0 ∧ p.inputs.length < 4
     · obtain ⟨hS, hA, hI⟩ := hsrc
       have hAb : ((p.acts.length : Int) == 0) = true := by rw [beq_iff_eq]; omega
       have hSL : SrcLine (wordsL 32 a2) p := ⟨List.length_eq_zero_iff.1 hA, ⟨ys.map bytesL, by rw [HWS.out, List.map_cons, hS]⟩, hI⟩
       have hW : wordsL 32 a2 = srcWord :: ys.map bytesL := by rw [HWS.out, List.map_cons, hS]
       have HSLN := Lib.hid (And.intro hSL hW)
       have HSR := fun V (hV : Sl 1 rStr w4 V ys) => Lib.hid (source24 ys V w4 hV hyn)
       obtain rfl : y = ByteArray.mk #[115, 111, 117, 114, 99, 101] := ba_ext hS
       have hcc : (c2 = 1 ∧ ys = []) ∨ 1 < c2 := by
         by_cases h1 : c2 = 1
         · exact .inl ⟨h1, List.length_eq_zero_iff.1 (by omega)⟩
         · exact .inr (by omega)
       have HST : Hid (Sl 1 rStr w4 (.slice (some ⟨g2, 1, none⟩) ys.length (c2 - 1)) ys) := Lib.hid (by
         obtain ⟨A, c', hv, hsl', h1, h2⟩ := HSL.out
         injection hv with hv1 _ hv3
         subst hv1 hv3
         obtain ⟨b', o', hbo, _, hst, _⟩ := sl_tail hsl'
         injection hbo with hbo
         injection hbo with q1 q2
         subst q1 q2
         exact ⟨_, _, rfl, hst, by omega, by omega⟩)
       have HST0 := fun A => Lib.hid (show ys = [] → Sl 1 rStr w4 (.slice A 0 0) ys from fun e => by subst e; exact ⟨A, 0, rfl, fun i x h => by simp at h, Nat.le_refl _, by omega⟩)
       clear hA hS hSL hW
       rcases hcc with ⟨rfl, rfl⟩ | hc2
       all_goals
         go_wp2_with (go_at_call 23; (with_reducible refine (HSR _ (by first | exact HST.out | exact (HST0 _).out (by first | trivial | rfl))).out.mono ?_))
         rintro e w5 ⟨ve, bo, es, rfl, hb3, hrow, hewf, hpost⟩
         obtain ⟨Ae, ce, rfl⟩ := row_val hrow
         have HPO := Lib.hid hpost
         have HL7 := Lib.hid (HL6.out.mono hb3 HL6.out.size.1)
         have HROW := Lib.hid (And.intro hrow hewf)
         have k8b : w5.cell? ⟨w2.heap.size + 1, 8, none⟩ = some (.slice Ai p.inputs.length ci) := (HL7.out.plan.cell 8 _ rfl).1
         have hz5 := hb3.size
         have hz6 := HL6.out.size
         clear hpost hb3 hrow hewf k8 k10 hyz HSR
         cases bo
         · have HRUN2 := Lib.hid (hrun.out _ _ _ (ScrRun.srcBad i _ a2 b2 p _ HCUT.out HSLN.out.2 HSLN.out.1 (fun es' hes => by
             rcases HPO.out with ⟨h', _⟩ | ⟨_, h'⟩
             · cases h'
             · exact h' es' hes)))
           clear k8b
           have d0 := (res_rcell HL7.out.res 0 (.int .i64 0) rfl).1
           have u0 := (res_rcell HL7.out.res 0 (.int .i64 0) rfl).2
           have d1 := (res_rcell HL7.out.res 1 (.int .i64 0) rfl).1
           have u1 := (res_rcell HL7.out.res 1 (.int .i64 0) rfl).2
           have d2 := (res_rcell HL7.out.res 2 (.int .i64 0) rfl).1
           have u2 := (res_rcell HL7.out.res 2 (.int .i64 0) rfl).2
           have d3 := (res_rcell HL7.out.res 3 (.int .i64 0) rfl).1
           have u3 := (res_rcell HL7.out.res 3 (.int .i64 0) rfl).2
           have d4 := (res_rcell HL7.out.res 4 (.int .i64 0) rfl).1
           have u4 := (res_rcell HL7.out.res 4 (.int .i64 0) rfl).2
           have d5 := (res_rcell HL7.out.res 5 (.int .i64 0) rfl).1
           have u5 := (res_rcell HL7.out.res 5 (.int .i64 0) rfl).2
           have d6 := (res_rcell HL7.out.res 6 (.int .i64 0) rfl).1
           have u6 := (res_rcell HL7.out.res 6 (.int .i64 0) rfl).2
           have d7 := (res_rcell HL7.out.res 7 (.int .i64 0) rfl).1
           have u7 := (res_rcell HL7.out.res 7 (.int .i64 0) rfl).2
           have d8 := (res_rcell HL7.out.res 8 (.slice none 0 0) rfl).1
           have u8 := (res_rcell HL7.out.res 8 (.slice none 0 0) rfl).2
           have d9 := (res_rcell HL7.out.res 9 (.int .i64 0) rfl).1
           have u9 := (res_rcell HL7.out.res 9 (.int .i64 0) rfl).2
           have d10 := (res_rcell HL7.out.res 10 (.slice none 0 0) rfl).1
           have u10 := (res_rcell HL7.out.res 10 (.slice none 0 0) rfl).2
           go_wp2_with fail
           refine bodyPost_ret (results_cell_tmp2_row rfl _ _ w.heap.size _ (plCells zeroP nilV nilV) (0, 0) (.struct fs) rfl (plan_ret3 zeroP nilV nilV HL7.out.res) hu rfl plan_info2) rfl ?_
           exact plan_zero HRUN2.out (by (repeat (with_reducible refine ext_setCell ?_ (Nat.le_refl _) _)); exact HL7.out.below)
         · have HSI : Hid (SrcIs _ es) := Lib.hid (by
             rcases HPO.out with ⟨_, h'⟩ | ⟨h', _⟩
             · exact h'
             · cases h')
           have HRUN2 := Lib.hid (fun x' e' k' hr => hrun.out x' e' k' (ScrRun.src i _ a2 b2 p x' _ es e' k' HCUT.out HSLN.out.2 HSLN.out.1 HSI.out hr))
           obtain ⟨vs, hr, hvs⟩ := HL7.out.ins
           have HVS := Lib.hid (And.intro hr hvs)
           obtain ⟨i0, hi, hz0, hz1, hz2⟩ := info_parts evs_info
           clear hr hvs hrun
           go_wp2_with (at_builtin; refine wpList_append_own _ rfl _ _ 24 rfl w.heap.size 48 i0 (.slice none 0 0) 1 24 Tryz.underlying24 hi hz0 hz1 hz2 rfl (by decide) _ _ _ rfl (row_belowK HVS.out.1 (ext_alloc (Below.refl _ _) _)) ⟨w5.heap.size, 0, none⟩ 1 1 [.slice Ae es.length ce] rfl rfl (news_alloc w5 [.slice Ae es.length ce] 48 rfl) (one_cell (slice_one HROW.out.1)) (by unfold maxLen; omega) (by omega) (by simp; omega) ?_)
           intro v' w6 hown' hgrow _
           obtain ⟨A', c', rfl⟩ := row_val hown'
           have hb6 : Below w5.heap.size w5 (w5.alloc (.cells #[.slice Ae es.length ce] 48)) := ext_alloc (Below.refl _ _) _
           have hL8 := HL7.out.mono hb6 HL7.out.size.1
           have HL9 := Lib.hid (hL8.more_in (es := es) (vs := vs) ⟨row_belowK (row_lower HROW.out.1 (by omega)) hb6, HROW.out.2⟩ (row_belowK HVS.out.1 hb6) (HVS.out.2.imp fun v es hv => ⟨row_belowK hv.1 hb6, hv.2⟩) hown' hgrow)
           have hpl := hL8.plan_in (row_belowK HVS.out.1 hb6) (by decide) hgrow
           have k8c : w6.cell? ⟨w2.heap.size + 1, 8, none⟩ = some (.slice Ai p.inputs.length ci) := (hpl.cell 8 _ rfl).1
           have f8c : w6.frozen? ⟨w2.heap.size + 1, 8, none⟩ = false := (hpl.cell 8 _ rfl).2
           clear hb6 hL8 hpl hown' hgrow k8b
           go_wp2_with fail
           go_roundw
           case rel => exact ⟨i + 1, _, _, _, b2, by omega, by omega, by go_num, HL9, by simp; omega, hpa, HTB, HRUN2⟩
           case measure => simp [intOf]; omega
     · have HNS : Hid (¬ SrcLine (wordsL 32 a2) p) := Lib.hid (fun hc => hsrc ⟨by
           obtain ⟨xs', e'⟩ := hc.2.1
           rw [HWS.out, List.map_cons] at e'
           injection e', by rw [hc.1]; rfl, hc.2.2⟩)
       have HAR := Lib.hid (act24 (wordsL 32 a2) y ys _ w4 HSL.out HWS)
       have hcases : (y.toList == [115, 111, 117, 114, 99, 101]) = false ∨ ((y.toList == [115, 111, 117, 114, 99, 101]) = true ∧ ((p.acts.length : Int) == 0) = false) ∨ ((y.toList == [115, 111, 117, 114, 99, 101]) = true ∧ ((p.acts.length : Int) == 0) = true ∧ ¬ p.inputs.length < 4) := by
         by_cases h2 : bytesL y = srcWord
         · right
           have e2 : (y.toList == [115, 111, 117, 114, 99, 101]) = true := by rw [ByteArray.toList_eq, beq_iff_eq]; exact h2
           by_cases h1 : p.acts.length = 0
           · exact .inr ⟨e2, by rw [beq_iff_eq]; omega, fun h3 => hsrc ⟨h2, h1, h3⟩⟩
           · exact .inl ⟨e2, by rw [beq_eq_false_iff_ne]; omega⟩
         · exact .inl (by rw [ByteArray.toList_eq, beq_eq_false_iff_ne]; exact h2)
       clear hsrc
       rcases hcases with hSb | ⟨hSb, hAb⟩ | ⟨hSb, hAb, hIb⟩
       all_goals
         go_wp2_with (go_at_call 24; (with_reducible refine HAR.out.mono ?_))
         rintro e w5 ⟨c, bo, rfl, hcw, hb3, hpost⟩
         have HPO := Lib.hid hpost
         have HL7 := Lib.hid (HL6.out.mono hb3 HL6.out.size.1)
         have HCW := Lib.hid hcw
         have hz5 := hb3.size
         have hz6 : (w2.heap.size + 1) < w5.heap.size := HL7.out.size.2
         have hz7 : (w2.heap.size + 1) ≠ w5.heap.size := by omega
         have hz8 : w.heap.size < w5.heap.size := by omega
         have hz9 : w.heap.size ≠ w5.heap.size := by omega
         have k8b : w5.cell? ⟨w2.heap.size + 1, 8, none⟩ = some (.slice Ai p.inputs.length ci) := (HL7.out.plan.cell 8 _ rfl).1
         have k10b : w5.cell? ⟨w2.heap.size + 1, 10, none⟩ = some (.slice Aa p.acts.length ca) := (HL7.out.plan.cell 10 _ rfl).1
         have hbA : Below w5.heap.size w5 (w5.alloc (.cells #[.int .i64 c.what, .int .i64 c.who, .int .i64 c.which] 52)) := ext_alloc (Below.refl _ _) _
         have HL8 := Lib.hid (HL7.out.mono hbA HL7.out.size.1)
         clear hpost hb3 k8 k10 hyz hcw hbA
         cases bo
         · have HRUN2 := Lib.hid (hrun.out _ _ _ (ScrRun.actBad i _ a2 b2 p HCUT.out HNS.out (.inl fun c' hc => by
             rcases HPO.out with ⟨h', _⟩ | ⟨_, h'⟩
             · cases h'
             · exact h' _ hc)))
           have d0 := (res_rcell HL7.out.res 0 (.int .i64 0) rfl).1
           have u0 := (res_rcell HL7.out.res 0 (.int .i64 0) rfl).2
           have d1 := (res_rcell HL7.out.res 1 (.int .i64 0) rfl).1
           have u1 := (res_rcell HL7.out.res 1 (.int .i64 0) rfl).2
           have d2 := (res_rcell HL7.out.res 2 (.int .i64 0) rfl).1
           have u2 := (res_rcell HL7.out.res 2 (.int .i64 0) rfl).2
           have d3 := (res_rcell HL7.out.res 3 (.int .i64 0) rfl).1
           have u3 := (res_rcell HL7.out.res 3 (.int .i64 0) rfl).2
           have d4 := (res_rcell HL7.out.res 4 (.int .i64 0) rfl).1
           have u4 := (res_rcell HL7.out.res 4 (.int .i64 0) rfl).2
           have d5 := (res_rcell HL7.out.res 5 (.int .i64 0) rfl).1
           have u5 := (res_rcell HL7.out.res 5 (.int .i64 0) rfl).2
           have d6 := (res_rcell HL7.out.res 6 (.int .i64 0) rfl).1
           have u6 := (res_rcell HL7.out.res 6 (.int .i64 0) rfl).2
           have d7 := (res_rcell HL7.out.res 7 (.int .i64 0) rfl).1
           have u7 := (res_rcell HL7.out.res 7 (.int .i64 0) rfl).2
           have d8 := (res_rcell HL7.out.res 8 (.slice none 0 0) rfl).1
           have u8 := (res_rcell HL7.out.res 8 (.slice none 0 0) rfl).2
           have d9 := (res_rcell HL7.out.res 9 (.int .i64 0) rfl).1
           have u9 := (res_rcell HL7.out.res 9 (.int .i64 0) rfl).2
           have d10 := (res_rcell HL7.out.res 10 (.slice none 0 0) rfl).1
           have u10 := (res_rcell HL7.out.res 10 (.slice none 0 0) rfl).2
           go_wp2_with fail
           refine bodyPost_ret (results_cell_tmp2_row rfl _ _ w.heap.size _ (plCells zeroP nilV nilV) (0, 0) (.struct fs) rfl (heap_alloc_keep _ (plan_ret3 zeroP nilV nilV HL7.out.res)) hu rfl plan_info2) rfl ?_
           exact plan_zero HRUN2.out (by refine ext_alloc ?_ _; (repeat (with_reducible refine ext_setCell ?_ (Nat.le_refl _) _)); exact HL7.out.below)
         · have HAI : Hid (ActIs (wordsL 32 a2) c) := Lib.hid (by
             rcases HPO.out with ⟨_, h'⟩ | ⟨h', _⟩
             · exact h'
             · cases h')
           by_cases hi0 : p.inputs.length = 0
           · have hib : ((p.inputs.length : Int) == 0) = true := by rw [beq_iff_eq]; omega
             have HRUN2 := Lib.hid (hrun.out _ _ _ (ScrRun.actBad i _ a2 b2 p HCUT.out HNS.out (.inr (.inl (List.length_eq_zero_iff.1 hi0)))))
             clear hi0
             have d0 := (res_rcell HL7.out.res 0 (.int .i64 0) rfl).1
             have u0 := (res_rcell HL7.out.res 0 (.int .i64 0) rfl).2
             have d1 := (res_rcell HL7.out.res 1 (.int .i64 0) rfl).1
             have u1 := (res_rcell HL7.out.res 1 (.int .i64 0) rfl).2
             have d2 := (res_rcell HL7.out.res 2 (.int .i64 0) rfl).1
             have u2 := (res_rcell HL7.out.res 2 (.int .i64 0) rfl).2
             have d3 := (res_rcell HL7.out.res 3 (.int .i64 0) rfl).1
             have u3 := (res_rcell HL7.out.res 3 (.int .i64 0) rfl).2
             have d4 := (res_rcell HL7.out.res 4 (.int .i64 0) rfl).1
             have u4 := (res_rcell HL7.out.res 4 (.int .i64 0) rfl).2
             have d5 := (res_rcell HL7.out.res 5 (.int .i64 0) rfl).1
             have u5 := (res_rcell HL7.out.res 5 (.int .i64 0) rfl).2
             have d6 := (res_rcell HL7.out.res 6 (.int .i64 0) rfl).1
             have u6 := (res_rcell HL7.out.res 6 (.int .i64 0) rfl).2
             have d7 := (res_rcell HL7.out.res 7 (.int .i64 0) rfl).1
             have u7 := (res_rcell HL7.out.res 7 (.int .i64 0) rfl).2
             have d8 := (res_rcell HL7.out.res 8 (.slice none 0 0) rfl).1
             have u8 := (res_rcell HL7.out.res 8 (.slice none 0 0) rfl).2
             have d9 := (res_rcell HL7.out.res 9 (.int .i64 0) rfl).1
             have u9 := (res_rcell HL7.out.res 9 (.int .i64 0) rfl).2
             have d10 := (res_rcell HL7.out.res 10 (.slice none 0 0) rfl).1
             have u10 := (res_rcell HL7.out.res 10 (.slice none 0 0) rfl).2
             go_wp2_with fail
             refine bodyPost_ret (results_cell_tmp2_row rfl _ _ w.heap.size _ (plCells zeroP nilV nilV) (0, 0) (.struct fs) rfl (heap_alloc_keep _ (plan_ret3 zeroP nilV nilV HL7.out.res)) hu rfl plan_info2) rfl ?_
             exact plan_zero HRUN2.out (by refine ext_alloc ?_ _; (repeat (with_reducible refine ext_setCell ?_ (Nat.le_refl _) _)); exact HL7.out.below)
           · have hib : ((p.inputs.length : Int) == 0) = false := by rw [beq_eq_false_iff_ne]; omega
             by_cases ha4 : 400 ≤ p.acts.length
             · have hac : ((p.acts.length : Int) == 400) = true := by rw [beq_iff_eq]; omega
               have HRUN2 := Lib.hid (hrun.out _ _ _ (ScrRun.actBad i _ a2 b2 p HCUT.out HNS.out (.inr (.inr (by omega)))))
               have d0 := (res_rcell HL7.out.res 0 (.int .i64 0) rfl).1
               have u0 := (res_rcell HL7.out.res 0 (.int .i64 0) rfl).2
               have d1 := (res_rcell HL7.out.res 1 (.int .i64 0) rfl).1
               have u1 := (res_rcell HL7.out.res 1 (.int .i64 0) rfl).2
               have d2 := (res_rcell HL7.out.res 2 (.int .i64 0) rfl).1
               have u2 := (res_rcell HL7.out.res 2 (.int .i64 0) rfl).2
               have d3 := (res_rcell HL7.out.res 3 (.int .i64 0) rfl).1
               have u3 := (res_rcell HL7.out.res 3 (.int .i64 0) rfl).2
               have d4 := (res_rcell HL7.out.res 4 (.int .i64 0) rfl).1
               have u4 := (res_rcell HL7.out.res 4 (.int .i64 0) rfl).2
               have d5 := (res_rcell HL7.out.res 5 (.int .i64 0) rfl).1
               have u5 := (res_rcell HL7.out.res 5 (.int .i64 0) rfl).2
               have d6 := (res_rcell HL7.out.res 6 (.int .i64 0) rfl).1
               have u6 := (res_rcell HL7.out.res 6 (.int .i64 0) rfl).2
               have d7 := (res_rcell HL7.out.res 7 (.int .i64 0) rfl).1
               have u7 := (res_rcell HL7.out.res 7 (.int .i64 0) rfl).2
               have d8 := (res_rcell HL7.out.res 8 (.slice none 0 0) rfl).1
               have u8 := (res_rcell HL7.out.res 8 (.slice none 0 0) rfl).2
               have d9 := (res_rcell HL7.out.res 9 (.int .i64 0) rfl).1
               have u9 := (res_rcell HL7.out.res 9 (.int .i64 0) rfl).2
               have d10 := (res_rcell HL7.out.res 10 (.slice none 0 0) rfl).1
               have u10 := (res_rcell HL7.out.res 10 (.slice none 0 0) rfl).2
               go_wp2_with fail
               refine bodyPost_ret (results_cell_tmp2_row rfl _ _ w.heap.size _ (plCells zeroP nilV nilV) (0, 0) (.struct fs) rfl (heap_alloc_keep _ (plan_ret3 zeroP nilV nilV HL7.out.res)) hu rfl plan_info2) rfl ?_
               exact plan_zero HRUN2.out (by refine ext_alloc ?_ _; (repeat (with_reducible refine ext_setCell ?_ (Nat.le_refl _) _)); exact HL7.out.below)
             · have hac : ((p.acts.length : Int) == 400) = false := by rw [beq_eq_false_iff_ne]; omega
               have HRUN2 := Lib.hid (fun x' e' k' hr => hrun.out x' e' k' (ScrRun.act i _ a2 b2 p x' c e' k' HCUT.out HNS.out HAI.out (fun e => hi0 (by rw [e]; rfl)) (by omega) hr))
               obtain ⟨i0, hi, hz0, hz1, hz2⟩ := info_parts acts_info
               clear hrun
               go_wp2_with (at_builtin; refine wpList_append_own _ rfl _ _ 25 rfl w.heap.size 52 i0 (.agg #[.int .i64 0, .int .i64 0, .int .i64 0]) 3 24 Tryz.underlying25 hi hz0 hz1 hz2 rfl (by decide) _ _ _ rfl (row_belowK HL7.out.acts.1 (ext_alloc (ext_alloc (Below.refl _ _) _) _)) ⟨w5.heap.size + 1, 0, none⟩ 1 1 c.cells3 rfl rfl (news_alloc _ c.cells3 52 (by simp)) (cells3_one c) (by unfold maxLen; omega) (by omega) (by simp; omega) ?_)
               intro v' w6 hown' hgrow _
               obtain ⟨A', c', rfl⟩ := row_val hown'
               have hL9 := HL8.out.mono (ext_alloc (Below.refl _ _) (.cells #[.int .i64 c.what, .int .i64 c.who, .int .i64 c.which] 52)) HL8.out.size.1
               have HL9 := Lib.hid (hL9.more_act HCW.out hown' hgrow)
               have hpl := hL9.plan_in hL9.acts.1 (by decide) hgrow
               have k10c : w6.cell? ⟨w2.heap.size + 1, 10, none⟩ = some (.slice Aa p.acts.length ca) := (hpl.cell 10 _ rfl).1
               have f10c : w6.frozen? ⟨w2.heap.size + 1, 10, none⟩ = false := (hpl.cell 10 _ rfl).2
               clear hL9 hpl hown' hgrow k8b k10b
               go_wp2_with fail
               go_roundw
               case rel => exact ⟨i + 1, _, _, _, b2, by omega, by omega, by go_num, HL9, hpi, by simp; omega, HTB, HRUN2⟩
               case measure => simp [intOf]; omega
   · obtain rfl : i = ls.length := by omega
     have hlin2 := hlin.out
     rw [List.drop_eq_nil_of_le (Nat.le_refl _)] at hlin2
     have HEND := Lib.hid (lines_nil hlin2)
     have k8 : wr.cell? ⟨w2.heap.size + 1, 8, none⟩ = some (.slice Ai p.inputs.length ci) := (hl3.out.plan.cell 8 _ rfl).1
     clear hlin2 hlin
     by_cases hr0 : rest = []
     · have he : (R.toList == []) = true := by rw [ByteArray.toList_eq, HRD.out, hr0]; rfl
       have he2 : R.toList.isEmpty = true := by rw [ByteArray.toList_eq, HRD.out, hr0]; rfl
       have HL0 := Lib.hid (show l = [] from by rw [HEND.out.1, hr0])
       clear hr0
       by_cases hi0 : p.inputs.length = 0
       · have hib : ((p.inputs.length : Int) == 0) = true := by rw [beq_iff_eq]; omega
         have HRUN2 := Lib.hid (hrun.out _ _ _ (by rw [HL0.out]; exact ScrRun.none _ p (List.length_eq_zero_iff.1 hi0)))
         clear hi0
         have d0 := (res_rcell hl3.out.res 0 (.int .i64 0) rfl).1
         have u0 := (res_rcell hl3.out.res 0 (.int .i64 0) rfl).2
         have d1 := (res_rcell hl3.out.res 1 (.int .i64 0) rfl).1
         have u1 := (res_rcell hl3.out.res 1 (.int .i64 0) rfl).2
         have d2 := (res_rcell hl3.out.res 2 (.int .i64 0) rfl).1
         have u2 := (res_rcell hl3.out.res 2 (.int .i64 0) rfl).2
         have d3 := (res_rcell hl3.out.res 3 (.int .i64 0) rfl).1
         have u3 := (res_rcell hl3.out.res 3 (.int .i64 0) rfl).2
         have d4 := (res_rcell hl3.out.res 4 (.int .i64 0) rfl).1
         have u4 := (res_rcell hl3.out.res 4 (.int .i64 0) rfl).2
         have d5 := (res_rcell hl3.out.res 5 (.int .i64 0) rfl).1
         have u5 := (res_rcell hl3.out.res 5 (.int .i64 0) rfl).2
         have d6 := (res_rcell hl3.out.res 6 (.int .i64 0) rfl).1
         have u6 := (res_rcell hl3.out.res 6 (.int .i64 0) rfl).2
         have d7 := (res_rcell hl3.out.res 7 (.int .i64 0) rfl).1
         have u7 := (res_rcell hl3.out.res 7 (.int .i64 0) rfl).2
         have d8 := (res_rcell hl3.out.res 8 (.slice none 0 0) rfl).1
         have u8 := (res_rcell hl3.out.res 8 (.slice none 0 0) rfl).2
         have d9 := (res_rcell hl3.out.res 9 (.int .i64 0) rfl).1
         have u9 := (res_rcell hl3.out.res 9 (.int .i64 0) rfl).2
         have d10 := (res_rcell hl3.out.res 10 (.slice none 0 0) rfl).1
         have u10 := (res_rcell hl3.out.res 10 (.slice none 0 0) rfl).2
         go_wp2_with fail
         refine bodyPost_ret (results_cell_tmp2_row rfl _ _ w.heap.size _ (plCells zeroP nilV nilV) (0, 0) (.struct fs) rfl (plan_ret3 zeroP nilV nilV hl3.out.res) hu rfl plan_info2) rfl ?_
         exact plan_zero HRUN2.out (by (repeat (with_reducible refine ext_setCell ?_ (Nat.le_refl _) _)); exact hl3.out.below)
       · have hib : ((p.inputs.length : Int) == 0) = false := by rw [beq_eq_false_iff_ne]; omega
         have HRUN2 := Lib.hid (hrun.out _ _ _ (by rw [HL0.out]; exact ScrRun.fin _ p (fun e => hi0 (by rw [e]; rfl))))
         clear hi0 hrun
         have q0 : wr.cell? ⟨w2.heap.size + 1, 0, none⟩ = some (.int .i64 p.job.groups) := (hl3.out.plan.cell 0 _ rfl).1
         have q1 : wr.cell? ⟨w2.heap.size + 1, 1, none⟩ = some (.int .i64 p.job.size) := (hl3.out.plan.cell 1 _ rfl).1
         have q2 : wr.cell? ⟨w2.heap.size + 1, 2, none⟩ = some (.int .i64 p.job.slide) := (hl3.out.plan.cell 2 _ rfl).1
         have q3 : wr.cell? ⟨w2.heap.size + 1, 3, none⟩ = some (.int .i64 p.job.fold) := (hl3.out.plan.cell 3 _ rfl).1
         have q4 : wr.cell? ⟨w2.heap.size + 1, 4, none⟩ = some (.int .i64 p.job.fuel) := (hl3.out.plan.cell 4 _ rfl).1
         have q5 : wr.cell? ⟨w2.heap.size + 1, 5, none⟩ = some (.int .i64 p.job.limit) := (hl3.out.plan.cell 5 _ rfl).1
         have q6 : wr.cell? ⟨w2.heap.size + 1, 6, none⟩ = some (.int .i64 p.job.delay) := (hl3.out.plan.cell 6 _ rfl).1
         have q7 : wr.cell? ⟨w2.heap.size + 1, 7, none⟩ = some (.int .i64 p.job.idle) := (hl3.out.plan.cell 7 _ rfl).1
         have q9 : wr.cell? ⟨w2.heap.size + 1, 9, none⟩ = some (.int .i64 p.workers) := (hl3.out.plan.cell 9 _ rfl).1
         have q10 : wr.cell? ⟨w2.heap.size + 1, 10, none⟩ = some (.slice Aa p.acts.length ca) := (hl3.out.plan.cell 10 _ rfl).1
         have hne : (w2.heap.size + 1) ≠ w.heap.size := by omega
         have d0 := (res_rcell hl3.out.res 0 (.int .i64 0) rfl).1
         have u0 := (res_rcell hl3.out.res 0 (.int .i64 0) rfl).2
         have d1 := (res_rcell hl3.out.res 1 (.int .i64 0) rfl).1
         have u1 := (res_rcell hl3.out.res 1 (.int .i64 0) rfl).2
         have d2 := (res_rcell hl3.out.res 2 (.int .i64 0) rfl).1
         have u2 := (res_rcell hl3.out.res 2 (.int .i64 0) rfl).2
         have d3 := (res_rcell hl3.out.res 3 (.int .i64 0) rfl).1
         have u3 := (res_rcell hl3.out.res 3 (.int .i64 0) rfl).2
         have d4 := (res_rcell hl3.out.res 4 (.int .i64 0) rfl).1
         have u4 := (res_rcell hl3.out.res 4 (.int .i64 0) rfl).2
         have d5 := (res_rcell hl3.out.res 5 (.int .i64 0) rfl).1
         have u5 := (res_rcell hl3.out.res 5 (.int .i64 0) rfl).2
         have d6 := (res_rcell hl3.out.res 6 (.int .i64 0) rfl).1
         have u6 := (res_rcell hl3.out.res 6 (.int .i64 0) rfl).2
         have d7 := (res_rcell hl3.out.res 7 (.int .i64 0) rfl).1
         have u7 := (res_rcell hl3.out.res 7 (.int .i64 0) rfl).2
         have d8 := (res_rcell hl3.out.res 8 (.slice none 0 0) rfl).1
         have u8 := (res_rcell hl3.out.res 8 (.slice none 0 0) rfl).2
         have d9 := (res_rcell hl3.out.res 9 (.int .i64 0) rfl).1
         have u9 := (res_rcell hl3.out.res 9 (.int .i64 0) rfl).2
         have d10 := (res_rcell hl3.out.res 10 (.slice none 0 0) rfl).1
         have u10 := (res_rcell hl3.out.res 10 (.slice none 0 0) rfl).2
         go_wp2_with fail
         refine bodyPost_ret (results_cell_tmp2_row rfl _ _ w.heap.size _ (plCells p (.slice Ai p.inputs.length ci) (.slice Aa p.acts.length ca)) (0, 0) (.struct fs) rfl (plan_ret3 p _ _ hl3.out.res) hu rfl plan_info2) rfl ?_
         exact plan_end3 hl3.out HRUN2.out
     · have he : (R.toList == []) = false := by rw [ByteArray.toList_eq, HRD.out, beq_eq_false_iff_ne]; exact hr0
       have he2 : R.toList.isEmpty = false := by rw [ByteArray.toList_eq, HRD.out, List.isEmpty_eq_false_iff]; exact hr0
       have HRUN2 := Lib.hid (hrun.out _ _ _ (ScrRun.open_ _ _ p (by rw [HEND.out.1]; exact hr0) HEND.out.2))
       clear hr0
       have d0 := (res_rcell hl3.out.res 0 (.int .i64 0) rfl).1
       have u0 := (res_rcell hl3.out.res 0 (.int .i64 0) rfl).2
       have d1 := (res_rcell hl3.out.res 1 (.int .i64 0) rfl).1
       have u1 := (res_rcell hl3.out.res 1 (.int .i64 0) rfl).2
       have d2 := (res_rcell hl3.out.res 2 (.int .i64 0) rfl).1
       have u2 := (res_rcell hl3.out.res 2 (.int .i64 0) rfl).2
       have d3 := (res_rcell hl3.out.res 3 (.int .i64 0) rfl).1
       have u3 := (res_rcell hl3.out.res 3 (.int .i64 0) rfl).2
       have d4 := (res_rcell hl3.out.res 4 (.int .i64 0) rfl).1
       have u4 := (res_rcell hl3.out.res 4 (.int .i64 0) rfl).2
       have d5 := (res_rcell hl3.out.res 5 (.int .i64 0) rfl).1
       have u5 := (res_rcell hl3.out.res 5 (.int .i64 0) rfl).2
       have d6 := (res_rcell hl3.out.res 6 (.int .i64 0) rfl).1
       have u6 := (res_rcell hl3.out.res 6 (.int .i64 0) rfl).2
       have d7 := (res_rcell hl3.out.res 7 (.int .i64 0) rfl).1
       have u7 := (res_rcell hl3.out.res 7 (.int .i64 0) rfl).2
       have d8 := (res_rcell hl3.out.res 8 (.slice none 0 0) rfl).1
       have u8 := (res_rcell hl3.out.res 8 (.slice none 0 0) rfl).2
       have d9 := (res_rcell hl3.out.res 9 (.int .i64 0) rfl).1
       have u9 := (res_rcell hl3.out.res 9 (.int .i64 0) rfl).2
       have d10 := (res_rcell hl3.out.res 10 (.slice none 0 0) rfl).1
       have u10 := (res_rcell hl3.out.res 10 (.slice none 0 0) rfl).2
       go_wp2_with fail
       refine bodyPost_ret (results_cell_tmp2_row rfl _ _ w.heap.size _ (plCells zeroP nilV nilV) (0, 0) (.struct fs) rfl (plan_ret3 zeroP nilV nilV hl3.out.res) hu rfl plan_info2) rfl ?_
       exact plan_zero HRUN2.out (by (repeat (with_reducible refine ext_setCell ?_ (Nat.le_refl _) _)); exact hl3.out.below)
end Go.Proofs.YtljbclkbmjjmdaaGreatDoor
