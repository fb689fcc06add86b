/- What a reading of an argument gives: the values that stand there, as plain lists. -/
import Derived.Test.YtljbclkbmjjmdaaGreatDoorM
import Derived.Deep.Slices
import Derived.ChangeArms
import Derived.ChangeShapes
import Derived.WideShapes
namespace Go.Proofs.YtljbclkbmjjmdaaGreatDoor
open Go.RowKit Go.Deep Go.ChangeShapes Go.WideShapes
/-- What reads by this type stands as R says. -/
def Opens {α : Type} (P : Program) (t : TypeId) (R : RepT α) : Prop :=
  ∀ (H : Type) (enc : TypeId × Value → H) (w : World) (base : Nat) (spare : Nat → Bool) (held : Bool) (fuel : Nat) (cs : List Value) (x : DataW H × List MemPlace), DataW.trod enc P w base spare held fuel t cs = some x → ∃ a, R w a cs
section
variable {P : Program}
theorem Opens.int {t : TypeId} {k : IntKind} (ht : P.underlying t = some (.int k)) : Opens P t (rInt k) := by
  intro H enc w base spare held fuel cs x h
  obtain ⟨n, rfl, _, hw⟩ := DataW.trod_int ht h
  exact ⟨n, rfl, hw⟩
theorem Opens.str {t : TypeId} (ht : P.underlying t = some .string) : Opens P t rStr := by
  intro H enc w base spare held fuel cs x h
  obtain ⟨s, rfl, _, hw⟩ := DataW.trod_string ht h
  exact ⟨s, rfl, by unfold WfS; unfold maxLen at hw; omega⟩
theorem list_of {α : Type} {p : Nat → α → Prop} : ∀ n, (∀ i, i < n → ∃ x, p i x) → ∃ xs : List α, xs.length = n ∧ ∀ i x, xs[i]? = some x → p i x
  | 0, _ => ⟨[], rfl, fun i x h => by simp at h⟩
  | n + 1, h => by
    obtain ⟨xs, hl, hx⟩ := list_of n (fun i hi => h i (by omega))
    obtain ⟨x, hp⟩ := h n (by omega)
    refine ⟨xs ++ [x], by simp [hl], fun i y hy => ?_⟩
    by_cases hi : i < n
    · rw [List.getElem?_append_left (by omega)] at hy
      exact hx i y hy
    · rw [List.getElem?_append_right (by omega), hl] at hy
      have hin : i = n := by
        have := (List.getElem?_eq_some_iff.1 hy).1
        simp at this; omega
      subst hin
      simp at hy
      subst hy
      exact hp
theorem Opens.slice {α : Type} {t e : TypeId} {k : Nat} {R : RepT α} (ht : P.underlying t = some (.slice e)) (hk : P.cellsOf e = k) (h0 : 0 < k) (he : Opens P e R) : Opens P t (rSl k R) := by
  intro H enc w base spare held fuel cs x h
  rcases open_slice ht h with ⟨rfl, _⟩ | ⟨a, len, cap, m, n, D, Pl, rfl, hb, hl, hm, hmm, _, hx⟩
  · exact ⟨[], _, rfl, Sl.nil k R w⟩
  · have hlm : len ≤ m := by rw [hmm]; split <;> omega
    rw [hk] at hx
    obtain ⟨xs, hlen, hxs⟩ := list_of (p := fun i y => ∃ b o cs, some a = some ⟨b, o, none⟩ ∧ b < w.heap.size ∧ R w y cs ∧ cs.length = k ∧ ∀ j u, cs[j]? = some u → w.cell? ⟨b, o + i * k + j, none⟩ = some u) len (fun i hi => by
      obtain ⟨cs', h1, h2⟩ := hx i (by omega)
      obtain ⟨_, hcl, hcell⟩ := World.cells?_some h1
      obtain ⟨y, hy⟩ := he H enc w base spare held n cs' _ h2
      have hc0 := hcell 0 h0
      rw [List.getElem?_eq_getElem (by omega)] at hc0
      obtain ⟨b, o, spot⟩ := a
      have hspot : spot = none := by
        obtain ⟨c2, g1, _⟩ := hx 0 (by omega)
        obtain ⟨_, gl, gc⟩ := World.cells?_some g1
        have g0 := gc 0 h0
        rw [List.getElem?_eq_getElem (by omega)] at g0
        have := World.cell?_spot g0
        simpa [Addr.add] using this
      subst hspot
      have hadd : ∀ j, ((⟨b, o, none⟩ : Addr).add (i * k)).add j = ⟨b, o + i * k + j, none⟩ := fun j => by rw [add_plain, add_plain]
      rw [hadd] at hc0
      refine ⟨y, b, o, cs', rfl, World.block_lt_of_cell? w _ hc0, hy, hcl, fun j u hu => ?_⟩
      have hj : j < k := by have := (List.getElem?_eq_some_iff.1 hu).1; omega
      have := hcell j hj
      rw [hadd] at this
      rw [this, hu])
    refine ⟨xs, _, rfl, some a, cap, by rw [hlen], hxs, by omega, by unfold maxLen at hm; omega⟩
/-- The fields of a struct. -/
theorem fields {H : Type} {enc : TypeId × Value → H} {w : World} {base : Nat} {spare : Nat → Bool} {held : Bool} {t : TypeId} {fs : Array Field} (ht : P.underlying t = some (.struct fs)) {fuel : Nat} {cs : List Value} {x : DataW H × List MemPlace} (h : DataW.trod enc P w base spare held fuel t cs = some x) :
    cs.length = P.cellsOf t ∧ ∃ n, ∀ (i : Nat) (f : Field), fs[i]? = some f → ∃ y, DataW.trod enc P w base spare held n f.type ((cs.drop f.offset).take (P.cellsOf f.type)) = some y := by
  obtain ⟨xs, n, _, _, hl, hxl, hf⟩ := DataW.trod_struct ht h
  refine ⟨hl, n, fun i f hi => ?_⟩
  have hlt : i < xs.length := by rw [hxl]; exact (Array.getElem?_eq_some_iff.1 hi).1
  exact ⟨xs[i], (hf i f hi).trans (List.getElem?_eq_getElem hlt)⟩
end
/-- Which field lies where. -/
noncomputable def fieldIs (T : TypeId) (n : Nat) (i : Nat) (ft off k : Nat) : Bool :=
  match Tryz.prog.underlying T with
  | some (.struct fs) => match fs[i]? with
    | some f => fs.size == n && f.type == ft && f.offset == off && Tryz.prog.cellsOf ft == k
    | none => false
  | _ => false
theorem field_at {H : Type} {enc : TypeId × Value → H} {w : World} {base : Nat} {spare : Nat → Bool} {held : Bool} {T : TypeId} {fs : Array Field} (ht : Tryz.prog.underlying T = some (.struct fs)) {n : Nat} {cs : List Value}
    (hf : ∀ (i : Nat) (f : Field), fs[i]? = some f → ∃ y, DataW.trod enc Tryz.prog w base spare held n f.type ((cs.drop f.offset).take (Tryz.prog.cellsOf f.type)) = some y) (m i ft off k : Nat) (hb : fieldIs T m i ft off k = true) :
    ∃ y, DataW.trod enc Tryz.prog w base spare held n ft ((cs.drop off).take k) = some y := by
  unfold fieldIs at hb
  rw [ht] at hb
  dsimp only at hb
  split at hb
  · rename_i f hfi
    simp only [Bool.and_eq_true, beq_iff_eq] at hb
    obtain ⟨⟨⟨_, h1⟩, h2⟩, h3⟩ := hb
    obtain ⟨y, hy⟩ := hf i f hfi
    rw [h1, h2, h3] at hy
    exact ⟨y, hy⟩
  · cases hb
theorem struct_of (T : TypeId) (h : (match Tryz.prog.underlying T with | some (.struct _) => true | _ => false) = true) : ∃ fs, Tryz.prog.underlying T = some (.struct fs) := by
  split at h
  · rename_i fs hu; exact ⟨fs, hu⟩
  · cases h
theorem len3 {α : Type} {l : List α} (h : l.length = 3) : ∃ a b c, l = [a, b, c] := by
  match l, h with
  | [a, b, c], _ => exact ⟨a, b, c, rfl⟩
theorem len8 {α : Type} {l : List α} (h : l.length = 8) : ∃ a b c d e f g i, l = [a, b, c, d, e, f, g, i] := by
  match l, h with
  | [a, b, c, d, e, f, g, i], _ => exact ⟨a, b, c, d, e, f, g, i, rfl⟩
theorem len11 {α : Type} {l : List α} (h : l.length = 11) : ∃ a b c d e f g i j k m, l = [a, b, c, d, e, f, g, i, j, k, m] := by
  match l, h with
  | [a, b, c, d, e, f, g, i, j, k, m], _ => exact ⟨a, b, c, d, e, f, g, i, j, k, m, rfl⟩
theorem ev_opens : Opens Tryz.prog 82 rEv := by
  intro H enc w base spare held fuel cs x h
  obtain ⟨fs, hu⟩ := struct_of 82 (by kernel_rfl)
  obtain ⟨hl, n, hf⟩ := fields hu h
  rw [show Tryz.prog.cellsOf 82 = 3 by kernel_rfl] at hl
  obtain ⟨c0, c1, c2, rfl⟩ := len3 hl
  obtain ⟨y0, h0⟩ := field_at hu hf 3 0 9 0 1 (by kernel_rfl)
  obtain ⟨y1, h1⟩ := field_at hu hf 3 1 2 1 1 (by kernel_rfl)
  obtain ⟨y2, h2⟩ := field_at hu hf 3 2 2 2 1 (by kernel_rfl)
  obtain ⟨s, e0, w0⟩ := Opens.str Tryz.underlying9 _ _ _ _ _ _ _ _ _ h0
  obtain ⟨a, e1, w1⟩ := Opens.int Tryz.underlying2 _ _ _ _ _ _ _ _ _ h1
  obtain ⟨b, e2, w2⟩ := Opens.int Tryz.underlying2 _ _ _ _ _ _ _ _ _ h2
  simp at e0 e1 e2
  subst e0 e1 e2
  exact ⟨⟨s, a, b⟩, rfl, w0, w1, w2⟩
theorem ac_opens : Opens Tryz.prog 52 rAc := by
  intro H enc w base spare held fuel cs x h
  obtain ⟨fs, hu⟩ := struct_of 52 (by kernel_rfl)
  obtain ⟨hl, n, hf⟩ := fields hu h
  rw [show Tryz.prog.cellsOf 52 = 3 by kernel_rfl] at hl
  obtain ⟨c0, c1, c2, rfl⟩ := len3 hl
  obtain ⟨y0, h0⟩ := field_at hu hf 3 0 3 0 1 (by kernel_rfl)
  obtain ⟨y1, h1⟩ := field_at hu hf 3 1 3 1 1 (by kernel_rfl)
  obtain ⟨y2, h2⟩ := field_at hu hf 3 2 3 2 1 (by kernel_rfl)
  obtain ⟨s, e0, w0⟩ := Opens.int Tryz.underlying3 _ _ _ _ _ _ _ _ _ h0
  obtain ⟨a, e1, w1⟩ := Opens.int Tryz.underlying3 _ _ _ _ _ _ _ _ _ h1
  obtain ⟨b, e2, w2⟩ := Opens.int Tryz.underlying3 _ _ _ _ _ _ _ _ _ h2
  simp at e0 e1 e2
  subst e0 e1 e2
  exact ⟨⟨s, a, b⟩, rfl, w0, w1, w2⟩
def rJb : RepT Jb := fun _ j cs => cs = [.int .i64 j.groups, .int .i64 j.size, .int .i64 j.slide, .int .i64 j.fold, .int .i64 j.fuel, .int .i64 j.limit, .int .i64 j.delay, .int .i64 j.idle] ∧ j.wf
theorem jb_opens : Opens Tryz.prog 23 rJb := by
  intro H enc w base spare held fuel cs x h
  obtain ⟨fs, hu⟩ := struct_of 23 (by kernel_rfl)
  obtain ⟨hl, n, hf⟩ := fields hu h
  rw [show Tryz.prog.cellsOf 23 = 8 by kernel_rfl] at hl
  obtain ⟨c0, c1, c2, c3, c4, c5, c6, c7, rfl⟩ := len8 hl
  obtain ⟨y0, h0⟩ := field_at hu hf 8 0 3 0 1 (by kernel_rfl)
  obtain ⟨y1, h1⟩ := field_at hu hf 8 1 2 1 1 (by kernel_rfl)
  obtain ⟨y2, h2⟩ := field_at hu hf 8 2 2 2 1 (by kernel_rfl)
  obtain ⟨y3, h3⟩ := field_at hu hf 8 3 3 3 1 (by kernel_rfl)
  obtain ⟨y4, h4⟩ := field_at hu hf 8 4 3 4 1 (by kernel_rfl)
  obtain ⟨y5, h5⟩ := field_at hu hf 8 5 2 5 1 (by kernel_rfl)
  obtain ⟨y6, h6⟩ := field_at hu hf 8 6 2 6 1 (by kernel_rfl)
  obtain ⟨y7, h7⟩ := field_at hu hf 8 7 3 7 1 (by kernel_rfl)
  obtain ⟨n0, e0, w0⟩ := Opens.int Tryz.underlying3 _ _ _ _ _ _ _ _ _ h0
  obtain ⟨n1, e1, w1⟩ := Opens.int Tryz.underlying2 _ _ _ _ _ _ _ _ _ h1
  obtain ⟨n2, e2, w2⟩ := Opens.int Tryz.underlying2 _ _ _ _ _ _ _ _ _ h2
  obtain ⟨n3, e3, w3⟩ := Opens.int Tryz.underlying3 _ _ _ _ _ _ _ _ _ h3
  obtain ⟨n4, e4, w4⟩ := Opens.int Tryz.underlying3 _ _ _ _ _ _ _ _ _ h4
  obtain ⟨n5, e5, w5⟩ := Opens.int Tryz.underlying2 _ _ _ _ _ _ _ _ _ h5
  obtain ⟨n6, e6, w6⟩ := Opens.int Tryz.underlying2 _ _ _ _ _ _ _ _ _ h6
  obtain ⟨n7, e7, w7⟩ := Opens.int Tryz.underlying3 _ _ _ _ _ _ _ _ _ h7
  simp at e0 e1 e2 e3 e4 e5 e6 e7
  subst e0 e1 e2 e3 e4 e5 e6 e7
  exact ⟨⟨n0, n1, n2, n3, n4, n5, n6, n7⟩, rfl, w0, w1, w2, w3, w4, w5, w6, w7⟩
theorem source_opens : Opens Tryz.prog 48 rIn := Opens.slice Tryz.underlying48 (by kernel_rfl) (by decide) ev_opens
theorem inputs_opens : Opens Tryz.prog 24 (rSl 1 rIn) := Opens.slice Tryz.underlying24 (by kernel_rfl) (by decide) source_opens
theorem acts_opens : Opens Tryz.prog 25 (rSl 3 rAc) := Opens.slice Tryz.underlying25 (by kernel_rfl) (by decide) ac_opens
theorem sl_mem {α : Type} {k : Nat} {R : RepT α} {w : World} {v : Value} {xs : List α} (h : Sl k R w v xs) : ∀ x ∈ xs, ∃ cs, R w x cs := by
  obtain ⟨A, c, rfl, h, _⟩ := h
  intro x hx
  obtain ⟨i, hi, rfl⟩ := List.getElem_of_mem hx
  obtain ⟨b, o, cs, _, _, hr, _⟩ := h i _ (List.getElem?_eq_getElem hi)
  exact ⟨cs, hr⟩
def rPl : RepT Pl := fun w p cs => ∃ vi va, cs = [.int .i64 p.job.groups, .int .i64 p.job.size, .int .i64 p.job.slide, .int .i64 p.job.fold, .int .i64 p.job.fuel, .int .i64 p.job.limit, .int .i64 p.job.delay, .int .i64 p.job.idle, vi, .int .i64 p.workers, va] ∧ p.job.wf ∧ Wf .i64 p.workers ∧ (∀ s ∈ p.inputs, ∀ e ∈ s, e.wf) ∧ (∀ a ∈ p.acts, a.wf) ∧ Sl 1 rIn w vi p.inputs ∧ Sl 3 rAc w va p.acts
theorem pl_opens : Opens Tryz.prog 27 rPl := by
  intro H enc w base spare held fuel cs x h
  obtain ⟨fs, hu⟩ := struct_of 27 (by kernel_rfl)
  obtain ⟨hl, n, hf⟩ := fields hu h
  rw [show Tryz.prog.cellsOf 27 = 11 by kernel_rfl] at hl
  obtain ⟨c0, c1, c2, c3, c4, c5, c6, c7, c8, c9, c10, rfl⟩ := len11 hl
  obtain ⟨y0, h0⟩ := field_at hu hf 4 0 23 0 8 (by kernel_rfl)
  obtain ⟨y1, h1⟩ := field_at hu hf 4 1 24 8 1 (by kernel_rfl)
  obtain ⟨y2, h2⟩ := field_at hu hf 4 2 3 9 1 (by kernel_rfl)
  obtain ⟨y3, h3⟩ := field_at hu hf 4 3 25 10 1 (by kernel_rfl)
  obtain ⟨j, e0, w0⟩ := jb_opens _ _ _ _ _ _ _ _ _ h0
  obtain ⟨l, vi, e1, w1⟩ := inputs_opens _ _ _ _ _ _ _ _ _ h1
  obtain ⟨k, e2, w2⟩ := Opens.int Tryz.underlying3 _ _ _ _ _ _ _ _ _ h2
  obtain ⟨la, va, e3, w3⟩ := acts_opens _ _ _ _ _ _ _ _ _ h3
  simp at e0 e1 e2 e3
  obtain ⟨q0, q1, q2, q3, q4, q5, q6, q7⟩ := e0
  subst q0 q1 q2 q3 q4 q5 q6 q7 e1 e2 e3
  refine ⟨⟨j, l, k, la⟩, c8, c10, rfl, w0, w2, fun s hs e he => ?_, fun a ha => ?_, w1, w3⟩
  · obtain ⟨cs, v, _, hv⟩ := sl_mem w1 s hs
    obtain ⟨cs', _, hw⟩ := sl_mem hv e he
    exact hw
  · obtain ⟨cs', _, hw⟩ := sl_mem w3 a ha
    exact hw
end Go.Proofs.YtljbclkbmjjmdaaGreatDoor
