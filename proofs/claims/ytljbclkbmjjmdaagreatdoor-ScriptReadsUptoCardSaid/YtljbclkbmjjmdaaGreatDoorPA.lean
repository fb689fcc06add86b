/- What a plan's parser holds while it reads: words for its memory. -/
import Derived.Test.YtljbclkbmjjmdaaGreatDoorP9
import Derived.Test.YtljbclkbmjjmdaaGreatDoorL2
import Derived.Deep.CutBlock
import Derived.Deep.DeepCutAuto
namespace Go.Proofs.YtljbclkbmjjmdaaGreatDoor
open Go.RowKit Go.Shelf
/-- The text's box and the result's cell. -/
structure Fix (B : Nat) (s : ByteArray) (W : World) : Prop where
  box : W.heap[B]? = some (.cells #[.string s] 9 (0, 0))
  res : W.heap[B + 1]? = some (.cells (plCells zeroP nilV nilV) 27 (0, 0))
theorem heap_kept {X : Nat → Prop} {W W' : World} (h : KeptX X W W') {g : Nat} {x : Obj} (hg : W.heap[g]? = some x) (hX : ¬ X g) : W'.heap[g]? = some x :=
  (h.block g (Array.getElem?_eq_some_iff.1 hg).1 hX).trans hg
theorem Fix.kept {X : Nat → Prop} {B : Nat} {s : ByteArray} {W W' : World} (h : Fix B s W) (hk : KeptX X W W') (h0 : ¬ X B) (h1 : ¬ X (B + 1)) : Fix B s W' :=
  ⟨heap_kept hk h.box h0, heap_kept hk h.res h1⟩
theorem Fix.mono {B : Nat} {s : ByteArray} {W W' : World} (h : Fix B s W) (hb : Below W.heap.size W W') : Fix B s W' :=
  h.kept (X := fun _ => False) (KeptX.of_below hb) id id
theorem Fix.cell {B : Nat} {s : ByteArray} {W : World} (h : Fix B s W) : W.cell? ⟨B, 0, none⟩ = some (.string s) := by rw [Lib.cell_of_heap h.box]; rfl
theorem Fix.rcell {B : Nat} {s : ByteArray} {W : World} (h : Fix B s W) (i : Nat) (v : Value) (hv : (plCells zeroP nilV nilV)[i]? = some v) : W.cell? ⟨B + 1, i, none⟩ = some v ∧ W.frozen? ⟨B + 1, i, none⟩ = false :=
  ⟨by rw [Lib.cell_of_heap h.res]; exact hv, by simp [World.frozen?, h.res]⟩
/-- The plan that is being read. -/
def PlanAt (b : Nat) (p : Pl) (vi va : Value) (W : World) : Prop := W.heap[b]? = some (.cells (plCells p vi va) 27 (0, 0))
theorem PlanAt.cell {b : Nat} {p : Pl} {vi va : Value} {W : World} (h : PlanAt b p vi va W) (i : Nat) (v : Value) (hv : (plCells p vi va)[i]? = some v) : W.cell? ⟨b, i, none⟩ = some v ∧ W.frozen? ⟨b, i, none⟩ = false := by
  unfold PlanAt at h
  exact ⟨by rw [Lib.cell_of_heap h]; exact hv, by simp [World.frozen?, h]⟩
def Ac.cells3 (a : Ac) : List Value := [.int .i64 a.what, .int .i64 a.who, .int .i64 a.which]
def EvsAt (B : Nat) (W : World) (v : Value) (es : List Ev) : Prop := W.ownsRow B 82 3 v es.length (es.flatMap Ev.cells) ∧ ∀ e ∈ es, e.wf
def InAt (B : Nat) (vi : Value) (ss : List (List Ev)) (W : World) : Prop := ∃ vs, W.ownsRow B 48 1 vi ss.length vs ∧ All2 (EvsAt B W) vs ss
def ActAt (B : Nat) (va : Value) (cs : List Ac) (W : World) : Prop := W.ownsRow B 52 3 va cs.length (cs.flatMap Ac.cells3) ∧ ∀ a ∈ cs, a.wf
theorem All2.imp {α β : Type} {R S : α → β → Prop} (h : ∀ x y, R x y → S x y) : ∀ {xs : List α} {ys : List β}, All2 R xs ys → All2 S xs ys
  | [], [], _ => trivial
  | _ :: _, _ :: _, k => ⟨h _ _ k.1, All2.imp h k.2⟩
  | [], _ :: _, k => k.elim
  | _ :: _, [], k => k.elim
/-- Blocks that turn, none of which holds a row of this type. -/
def Off (X : Nat → Prop) (T : TypeId) (W : World) : Prop := ∀ g cur, X g → W.heap[g]? = some (.cells cur T (0, 0)) → False
theorem InAt.kept {X : Nat → Prop} {B : Nat} {vi : Value} {ss : List (List Ev)} {W W' : World} (h : InAt B vi ss W) (hk : KeptX X W W') (h1 : Off X 48 W) (h2 : Off X 82 W) : InAt B vi ss W' := by
  obtain ⟨vs, hr, ha⟩ := h
  exact ⟨vs, row_keptX hr hk h1, ha.imp fun v es hv => ⟨row_keptX hv.1 hk h2, hv.2⟩⟩
theorem ActAt.kept {X : Nat → Prop} {B : Nat} {va : Value} {cs : List Ac} {W W' : World} (h : ActAt B va cs W) (hk : KeptX X W W') (h1 : Off X 52 W) : ActAt B va cs W' :=
  ⟨row_keptX h.1 hk h1, h.2⟩
theorem InAt.val {B : Nat} {vi : Value} {ss : List (List Ev)} {W : World} (h : InAt B vi ss W) : ∃ A c, vi = .slice A ss.length c := by
  obtain ⟨vs, hr, _⟩ := h
  rcases hr.2 with ⟨rfl, h0⟩ | ⟨g, cap, cur, rfl, _⟩
  · exact ⟨none, 0, by rw [h0]⟩
  · exact ⟨_, _, rfl⟩
theorem ActAt.val {B : Nat} {va : Value} {cs : List Ac} {W : World} (h : ActAt B va cs W) : ∃ A c, va = .slice A cs.length c := by
  rcases h.1.2 with ⟨rfl, h0⟩ | ⟨g, cap, cur, rfl, _⟩
  · exact ⟨none, 0, by rw [h0]⟩
  · exact ⟨_, _, rfl⟩
/-- All that stands between two lines. -/
structure L2 (B : Nat) (s : ByteArray) (w0 : World) (bp : Nat) (p : Pl) (vi va : Value) (at_ no : Nat) (W : World) : Prop where
  below : Below B w0 W
  fix : Fix B s W
  iat : IntAt (B + 2) at_ W
  ino : IntAt (B + 3) no W
  plan : PlanAt bp p vi va W
  ins : InAt B vi p.inputs W
  acts : ActAt B va p.acts W
  hbp : B + 4 ≤ bp
  hat : at_ ≤ s.size
  hno : no ≤ at_
theorem off_of {X : Nat → Prop} {T : TypeId} {W : World} (h : ∀ g, X g → ∃ cur T', W.heap[g]? = some (.cells cur T' (0, 0)) ∧ T' ≠ T) : Off X T W := by
  intro g cur hx hg
  obtain ⟨cur', T', h1, h2⟩ := h g hx
  rw [hg] at h1
  injection h1 with h1
  injection h1 with _ h1
  exact h2 h1.symm
theorem L2.kept {X : Nat → Prop} {B : Nat} {s : ByteArray} {w0 : World} {bp : Nat} {p : Pl} {vi va : Value} {at_ no at' no' : Nat} {W W' : World} (h : L2 B s w0 bp p vi va at_ no W) (hk : KeptX X W W') (hB : ∀ i, X i → B ≤ i)
    (h0 : ¬ X B) (h1 : ¬ X (B + 1)) (hp : ¬ X bp) (hX : ∀ g, X g → ∃ cur T', W.heap[g]? = some (.cells cur T' (0, 0)) ∧ T' ≠ 48 ∧ T' ≠ 82 ∧ T' ≠ 52)
    (ha : IntAt (B + 2) at' W') (hn : IntAt (B + 3) no' W') (h2 : at' ≤ s.size) (h3 : no' ≤ at') : L2 B s w0 bp p vi va at' no' W' :=
  ⟨h.below.trans (hk.below hB (by have := h.iat.lt; omega)), h.fix.kept hk h0 h1, ha, hn, heap_kept hk h.plan hp,
    h.ins.kept hk (off_of fun g hg => by obtain ⟨c, T, a, b, _⟩ := hX g hg; exact ⟨c, T, a, b⟩) (off_of fun g hg => by obtain ⟨c, T, a, _, b, _⟩ := hX g hg; exact ⟨c, T, a, b⟩),
    h.acts.kept hk (off_of fun g hg => by obtain ⟨c, T, a, _, _, b⟩ := hX g hg; exact ⟨c, T, a, b⟩), h.hbp, h2, h3⟩
theorem L2.mono {B : Nat} {s : ByteArray} {w0 : World} {bp : Nat} {p : Pl} {vi va : Value} {at_ no : Nat} {W W' : World} (h : L2 B s w0 bp p vi va at_ no W) (hb : Below W.heap.size W W') : L2 B s w0 bp p vi va at_ no W' :=
  h.kept (X := fun _ => False) (KeptX.of_below hb) (fun _ h => h.elim) id id id (fun _ h => h.elim) (h.iat.mono hb) (h.ino.mono hb) h.hat h.hno
theorem L2.next {B : Nat} {s : ByteArray} {w0 : World} {bp : Nat} {p : Pl} {vi va : Value} {at_ no at' no' : Nat} {W W' : World} (h : L2 B s w0 bp p vi va at_ no W) (hk : KeptX (fun i => i = B + 2 ∨ i = B + 3) W W')
    (ha : IntAt (B + 2) at' W') (hn : IntAt (B + 3) no' W') (h2 : at' ≤ s.size) (h3 : no' ≤ at') : L2 B s w0 bp p vi va at' no' W' := by
  have hbp := h.hbp
  refine h.kept hk (fun i hi => by omega) (by omega) (by omega) (by omega) (fun g hg => ?_) ha hn h2 h3
  rcases hg with rfl | rfl
  · exact ⟨_, _, h.iat, by decide, by decide, by decide⟩
  · exact ⟨_, _, h.ino, by decide, by decide, by decide⟩
/-- The workers' number is stored. -/
theorem L2.work {B : Nat} {s : ByteArray} {w0 : World} {bp : Nat} {p : Pl} {vi va : Value} {at_ no : Nat} {W : World} (h : L2 B s w0 bp p vi va at_ no W) (m : Int) : L2 B s w0 bp { p with workers := m } vi va at_ no (W.setCell ⟨bp, 9, none⟩ (.int .i64 m)) := by
  have hbp := h.hbp
  have hk2 : KeptX (fun i => i = bp) W (W.setCell ⟨bp, 9, none⟩ (.int .i64 m)) := KeptX.set _ _ _ rfl
  have hoff : ∀ T, T ≠ 27 → Off (fun i => i = bp) T W := fun T hT => off_of fun g e => ⟨_, _, e ▸ h.plan, Ne.symm hT⟩
  refine ⟨h.below.setCell (by show B ≤ bp; omega) _, h.fix.kept hk2 (by omega) (by omega), heap_kept hk2 h.iat (by omega), heap_kept hk2 h.ino (by omega), ?_, h.ins.kept hk2 (hoff _ (by decide)) (hoff _ (by decide)), h.acts.kept hk2 (hoff _ (by decide)), hbp, h.hat, h.hno⟩
  have := heap_setCell_same W bp 9 _ _ (.int .i64 m) h.plan
  exact this
/-- A slice's block holds a row of its type. -/
theorem own_type {W : World} {B k n : Nat} {T : TypeId} {v : Value} {xs : List Value} (h : W.ownsRow B T k v n xs) {g : Nat} (hg : v.ownBlock = some g) : B ≤ g ∧ ∃ cur, W.heap[g]? = some (.cells cur T (0, 0)) := by
  rcases h.2 with ⟨rfl, _⟩ | ⟨g', cap, cur, rfl, hB, hh, _⟩
  · cases hg
  · have e : g' = g := Option.some.inj hg
    subst e
    exact ⟨hB, cur, hh⟩
theorem L2.ne_type {B : Nat} {s : ByteArray} {w0 : World} {bp : Nat} {p : Pl} {vi va : Value} {at_ no : Nat} {W : World} (h : L2 B s w0 bp p vi va at_ no W) {g : Nat} {cur : Array Value} {T : TypeId} (hg : W.heap[g]? = some (.cells cur T (0, 0)))
    (h1 : T ≠ 9) (h2 : T ≠ 27) (h3 : T ≠ 3) : g ≠ B ∧ g ≠ B + 1 ∧ g ≠ B + 2 ∧ g ≠ B + 3 ∧ g ≠ bp := by
  have key : ∀ b c T', W.heap[b]? = some (.cells c T' (0, 0)) → T ≠ T' → g ≠ b := by
    rintro b c T' hb hne rfl
    rw [hg] at hb
    injection hb with hb
    injection hb with _ hb
    exact hne hb
  exact ⟨key _ _ _ h.fix.box h1, key _ _ _ h.fix.res h2, key _ _ _ h.iat h3, key _ _ _ h.ino h3, key _ _ _ h.plan h2⟩
/-- A source more. -/
theorem L2.more_in {B : Nat} {s : ByteArray} {w0 : World} {bp : Nat} {p : Pl} {vi va vi' ve : Value} {es : List Ev} {at_ no : Nat} {W W1 : World} (h : L2 B s w0 bp p vi va at_ no W) (he : EvsAt B W ve es) {vs : List Value} (hr : W.ownsRow B 48 1 vi p.inputs.length vs) (ha : All2 (EvsAt B W) vs p.inputs)
    (hr1 : W1.ownsRow B 48 1 vi' (p.inputs.length + 1) (vs ++ [ve])) (hg : W.grownBy W1 vi.ownBlock) : L2 B s w0 bp { p with inputs := p.inputs ++ [es] } vi' va at_ no (W1.setCell ⟨bp, 8, none⟩ vi') := by
  have hbp := h.hbp
  have hk : KeptX (fun i => vi.ownBlock = some i) W W1 := KeptX.of_grown hg (fun g e => e)
  have hne := fun g (e : vi.ownBlock = some g) => h.ne_type (own_type hr e).2.choose_spec (by decide) (by decide) (by decide)
  have hev : ∀ v es, EvsAt B W v es → EvsAt B W1 v es := fun v es hv => ⟨row_keptX hv.1 hk (off_of fun g e => ⟨_, _, (own_type hr e).2.choose_spec, by decide⟩), hv.2⟩
  have hp1 : PlanAt bp p vi va W1 := heap_kept hk h.plan (fun e => (hne _ e).2.2.2.2 rfl)
  have hk2 : KeptX (fun i => i = bp) W1 (W1.setCell ⟨bp, 8, none⟩ vi') := KeptX.set _ _ _ rfl
  have hoff : ∀ T, T ≠ 27 → Off (fun i => i = bp) T W1 := fun T hT => off_of fun g e => ⟨_, _, e ▸ hp1, Ne.symm hT⟩
  have hev2 : ∀ v es, EvsAt B W v es → EvsAt B (W1.setCell ⟨bp, 8, none⟩ vi') v es := fun v es hv => ⟨row_keptX (hev v es hv).1 hk2 (hoff _ (by decide)), hv.2⟩
  refine ⟨?_, ?_, ?_, ?_, ?_, ⟨vs ++ [ve], ?_, ?_⟩, ?_, hbp, h.hat, h.hno⟩
  · exact (h.below.trans (hk.below (fun g e => (own_type hr e).1) (by have := h.iat.lt; omega))).setCell (by show B ≤ bp; omega) _
  · exact (h.fix.kept hk (fun e => (hne _ e).1 rfl) (fun e => (hne _ e).2.1 rfl)).kept hk2 (by omega) (by omega)
  · exact heap_kept hk2 (heap_kept hk h.iat (fun e => (hne _ e).2.2.1 rfl)) (by omega)
  · exact heap_kept hk2 (heap_kept hk h.ino (fun e => (hne _ e).2.2.2.1 rfl)) (by omega)
  · have := heap_setCell_same W1 bp 8 _ _ vi' hp1
    exact this
  · have := row_keptX hr1 hk2 (hoff _ (by decide))
    simpa using this
  · exact (ha.imp fun v es hv => hev2 v es hv).snoc (hev2 _ _ he)
  · exact (h.acts.kept hk (off_of fun g e => ⟨_, _, (own_type hr e).2.choose_spec, by decide⟩)).kept hk2 (hoff _ (by decide))
/-- An act more. -/
theorem L2.more_act {B : Nat} {s : ByteArray} {w0 : World} {bp : Nat} {p : Pl} {vi va va' : Value} {c : Ac} {at_ no : Nat} {W W1 : World} (h : L2 B s w0 bp p vi va at_ no W) (hw : c.wf)
    (hr1 : W1.ownsRow B 52 3 va' (p.acts.length + 1) (p.acts.flatMap Ac.cells3 ++ c.cells3)) (hg : W.grownBy W1 va.ownBlock) : L2 B s w0 bp { p with acts := p.acts ++ [c] } vi va' at_ no (W1.setCell ⟨bp, 10, none⟩ va') := by
  have hbp := h.hbp
  have hr := h.acts.1
  have hk : KeptX (fun i => va.ownBlock = some i) W W1 := KeptX.of_grown hg (fun g e => e)
  have hne := fun g (e : va.ownBlock = some g) => h.ne_type (own_type hr e).2.choose_spec (by decide) (by decide) (by decide)
  have hp1 : PlanAt bp p vi va W1 := heap_kept hk h.plan (fun e => (hne _ e).2.2.2.2 rfl)
  have hk2 : KeptX (fun i => i = bp) W1 (W1.setCell ⟨bp, 10, none⟩ va') := KeptX.set _ _ _ rfl
  have hoff : ∀ T, T ≠ 27 → Off (fun i => i = bp) T W1 := fun T hT => off_of fun g e => ⟨_, _, e ▸ hp1, Ne.symm hT⟩
  refine ⟨?_, ?_, ?_, ?_, ?_, ?_, ⟨?_, ?_⟩, hbp, h.hat, h.hno⟩
  · exact (h.below.trans (hk.below (fun g e => (own_type hr e).1) (by have := h.iat.lt; omega))).setCell (by show B ≤ bp; omega) _
  · exact (h.fix.kept hk (fun e => (hne _ e).1 rfl) (fun e => (hne _ e).2.1 rfl)).kept hk2 (by omega) (by omega)
  · exact heap_kept hk2 (heap_kept hk h.iat (fun e => (hne _ e).2.2.1 rfl)) (by omega)
  · exact heap_kept hk2 (heap_kept hk h.ino (fun e => (hne _ e).2.2.2.1 rfl)) (by omega)
  · have := heap_setCell_same W1 bp 10 _ _ va' hp1
    exact this
  · exact (h.ins.kept hk (off_of fun g e => ⟨_, _, (own_type hr e).2.choose_spec, by decide⟩) (off_of fun g e => ⟨_, _, (own_type hr e).2.choose_spec, by decide⟩)).kept hk2 (hoff _ (by decide)) (hoff _ (by decide))
  · have := row_keptX hr1 hk2 (hoff _ (by decide))
    simpa using this
  · intro a ha
    rcases List.mem_append.1 ha with ha | ha
    · exact h.acts.2 a ha
    · rw [List.mem_singleton.1 ha]; exact hw
end Go.Proofs.YtljbclkbmjjmdaaGreatDoor
