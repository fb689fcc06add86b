/- A statement whose order is drawn, whatever it holds: one short proof for each operation, whenever it comes up. -/
import Derived.Test.YtljbclkbmjjmdaaGreatDoorLib
import Derived.StillTail
namespace Go.Proofs.YtljbclkbmjjmdaaGreatDoor
open Go.RowKit Go.Shelf
section
variable {P : Program}

/-- The operation that writes slot t. -/
def writerOf (l : List Oper) (t : Tmp) : Option Nat := l.findIdx? fun o => o.dst == some t
/-- The slots that an operation looks at. -/
def tmpsOf (l : List Oper) (o : Oper) : List Tmp :=
  (o.op.operands.toList.filterMap fun | .tmp t => some t | _ => none) ++ (match o.guard with | some (g, _) => ((l[g]?).bind (·.dst)).toList | none => [])
/-- Operation i waits for operation j. -/
def waitsOn (o : Oper) (j : Nat) : Bool := o.after.any fun e => Region.binds .any e && e.on == j
/-- Each slot is written once; what waits, waits for what stands ahead of it; what is looked at is there, or is as it was. -/
def regOp (l : List Oper) (i : Nat) (o : Oper) : Bool :=
  (o.after.all fun e => !Region.binds .any e || decide (e.on < i)) &&
  (match o.dst with | some d => writerOf l d == some i | none => true) &&
  ((tmpsOf l o).all fun t => match writerOf l t with | none => true | some j => waitsOn o j || ((l[j]?).map (waitsOn · i)).getD false)
def regFrom (l : List Oper) : Nat → List Oper → Bool
  | _, [] => true
  | i, o :: r => regOp l i o && regFrom l (i + 1) r

theorem regFrom_at {l : List Oper} : ∀ (r : List Oper) (k : Nat), regFrom l k r = true → ∀ i o, r[i]? = some o → regOp l (k + i) o = true
  | [], _, _, i, o, h => by simp at h
  | x :: r, k, hr, 0, o, h => by
    simp only [regFrom, Bool.and_eq_true] at hr
    simp at h
    subst h
    exact hr.1
  | x :: r, k, hr, i + 1, o, h => by
    simp only [regFrom, Bool.and_eq_true] at hr
    have := regFrom_at r (k + 1) hr.2 i o (by simpa using h)
    rwa [show k + 1 + i = k + (i + 1) by omega] at this

theorem writerOf_dst {l : List Oper} {t : Tmp} {j : Nat} (h : writerOf l t = some j) : ∃ o, l[j]? = some o ∧ o.dst = some t := by
  obtain ⟨hj, hp, _⟩ := List.findIdx?_eq_some_iff_getElem.1 h
  exact ⟨l[j], List.getElem?_eq_getElem hj, by simpa using hp⟩

/-- What is known of a slot when operation i looks at it. -/
def slotKnown (l : List Oper) (a0 : Act) (Φ : Nat → World → Value → Prop) (o : Oper) (a : Act) (w : World) (t : Tmp) : Prop :=
  match writerOf l t with
  | none => a.tmps.getD t undef = a0.tmps.getD t undef
  | some j => if waitsOn o j then Φ j w (a.tmps.getD t undef) else a.tmps.getD t undef = a0.tmps.getD t undef

structure RegInv (l : List Oper) (a0 : Act) (w0 : World) (G : World → World → Prop) (Φ : Nat → World → Value → Prop) (listed : Array Bool) (a : Act) (w : World) : Prop where
  size : listed.size = l.length
  grown : G w0 w
  defers : a.defers = a0.defers
  tmps : a.tmps.size = a0.tmps.size
  old : ∀ t, (∀ j, writerOf l t = some j → listed.getD j false = false) → a.tmps.getD t undef = a0.tmps.getD t undef
  new : ∀ t j, writerOf l t = some j → listed.getD j false = true → t < a0.tmps.size → Φ j w (a.tmps.getD t undef)
  closed : ∀ k o, l[k]? = some o → listed.getD k false = true → ∀ e ∈ o.after, Region.binds .any e = true → listed.getD e.on false = true

/-- What each operation owes: in whatever world and frame it comes up. -/
def StepOk (P : Program) (l : List Oper) (a0 : Act) (w0 : World) (G : World → World → Prop) (Φ : Nat → World → Value → Prop) (Q : Exit → Act → World → Prop) (i : Nat) (o : Oper) : Prop :=
  ∀ a w, G w0 w → (∀ t ∈ tmpsOf l o, slotKnown l a0 Φ o a w t) →
    ∀ K : Act → World → Prop, (∀ v w', Φ i w' v → G w w' → K (a.put o.dst v) w') → if Region.wanted o (yielded l.toArray a.tmps) then o.wp P a w K Q else K (a.put o.dst undef) w
def StepsOk (P : Program) (l : List Oper) (a0 : Act) (w0 : World) (G : World → World → Prop) (Φ : Nat → World → Value → Prop) (Q : Exit → Act → World → Prop) : Nat → List Oper → Prop
  | _, [] => True
  | i, o :: r => StepOk P l a0 w0 G Φ Q i o ∧ StepsOk P l a0 w0 G Φ Q (i + 1) r
theorem StepsOk.at_ {l : List Oper} {a0 : Act} {w0 : World} {G : World → World → Prop} {Φ : Nat → World → Value → Prop} {Q : Exit → Act → World → Prop} : ∀ (r : List Oper) (k : Nat), StepsOk P l a0 w0 G Φ Q k r → ∀ i o, r[i]? = some o → StepOk P l a0 w0 G Φ Q (k + i) o
  | [], _, _, i, o, h => by simp at h
  | x :: r, k, hr, 0, o, h => by
    simp at h
    subst h
    exact hr.1
  | x :: r, k, hr, i + 1, o, h => by
    have := StepsOk.at_ r (k + 1) hr.2 i o (by simpa using h)
    rwa [show k + 1 + i = k + (i + 1) by omega] at this

theorem getD_false_true {listed : Array Bool} {i : Nat} (h : listed.getD i true = false) : i < listed.size ∧ listed.getD i false = false := by
  rcases Nat.lt_or_ge i listed.size with hi | hi
  · simp [Array.getD, hi] at h ⊢
    exact h
  · simp [Array.getD, Nat.not_lt.2 hi] at h

theorem count_set {listed : Array Bool} {i : Nat} (hi : i < listed.size) (h : listed.getD i false = false) : (listed.setIfInBounds i true).toList.count false + 1 = listed.toList.count false := by
  have h' : listed.toList[i]'(by simpa using hi) = false := by simpa [Array.getD, hi] using h
  rw [Array.toList_setIfInBounds, List.count_set (by simpa using hi), h']
  have hp : 0 < listed.toList.count false := by
    rw [List.count_pos_iff]
    exact h' ▸ List.getElem_mem _
  rw [if_pos (by rfl), if_neg (by decide)]
  omega

/-- Some operation comes up as long as one is left. -/
theorem ready_some {l : List Oper} (hB : regFrom l 0 l = true) {listed : Array Bool} (hs : listed.size = l.length) (hr : Region.ready .any l.toArray listed = []) : listed.toList.count false = 0 := by
  rw [List.count_eq_zero]
  intro hm
  have hex : ∃ i, i < l.length ∧ listed.getD i true = false := by
    obtain ⟨i, hi, he⟩ := List.getElem_of_mem hm
    have hi' : i < listed.size := by simpa using hi
    refine ⟨i, by omega, ?_⟩
    simpa [Array.getD, hi'] using he
  obtain ⟨i, ⟨hi, hf⟩, hmin⟩ : ∃ i, (i < l.length ∧ listed.getD i true = false) ∧ ∀ j, j < i → ¬ (j < l.length ∧ listed.getD j true = false) := by
    obtain ⟨n, hn⟩ := hex
    induction n using Nat.strongRecOn with
    | _ n ih =>
      by_cases h : ∃ j, j < n ∧ (j < l.length ∧ listed.getD j true = false)
      · obtain ⟨j, hj, h1⟩ := h; exact ih j hj h1
      · exact ⟨n, hn, fun j hj h1 => h ⟨j, hj, h1⟩⟩
  have hop := regFrom_at l 0 hB i l[i] (List.getElem?_eq_getElem hi)
  rw [Nat.zero_add] at hop
  simp only [regOp, Bool.and_eq_true] at hop
  have hmem : i ∈ Region.ready .any l.toArray listed := by
    refine mem_ready.2 ⟨hf, l[i], by simp [hi], fun e he hb => ?_⟩
    have h1 := Array.all_eq_true'.1 hop.1.1 e he
    simp [hb] at h1
    have h2 := hmin e.on h1
    rcases Bool.eq_false_or_eq_true (listed.getD e.on false) with h3 | h3
    · exact h3
    · exfalso
      refine h2 ⟨by omega, ?_⟩
      have : e.on < listed.size := by omega
      simpa [Array.getD, this] using h3
  rw [hr] at hmem
  cases hmem

theorem RegInv.step {l : List Oper} (hB : regFrom l 0 l = true) {a0 : Act} {w0 : World} {G : World → World → Prop} (hG : ∀ a b c, G a b → G b c → G a c) {Φ : Nat → World → Value → Prop} (hΦ : ∀ j w w' v, Φ j w v → G w w' → Φ j w' v)
    {listed : Array Bool} {a : Act} {w : World} (h : RegInv l a0 w0 G Φ listed a w) {i : Nat} {o : Oper} (ho : l[i]? = some o) (hf : listed.getD i true = false) (hall : ∀ e ∈ o.after, Region.binds .any e = true → listed.getD e.on false = true) (v : Value) (w' : World) (hv : Φ i w' v) (hw : G w w') :
    RegInv l a0 w0 G Φ (listed.setIfInBounds i true) (a.put o.dst v) w' := by
  have hop := regFrom_at l 0 hB i o ho
  rw [Nat.zero_add] at hop
  simp only [regOp, Bool.and_eq_true] at hop
  obtain ⟨hi, hf'⟩ := getD_false_true hf
  have hput : ∀ t, (a.put o.dst v).tmps.getD t undef = if o.dst = some t ∧ t < a.tmps.size then v else a.tmps.getD t undef := by
    intro t
    cases hd : o.dst with
    | none => simp [Act.put]
    | some d =>
      simp only [Act.put, Array.getD_eq_getD_getElem?, Array.getElem?_setIfInBounds, Option.some.injEq]
      by_cases e : d = t
      · subst e
        by_cases hs : d < a.tmps.size
        · simp [hs]
        · simp [hs]
      · simp [e]
  refine ⟨by simpa using h.size, hG _ _ _ h.grown hw, ?_, ?_, ?_, ?_, ?_⟩
  · rw [← h.defers]; cases o.dst <;> rfl
  · rw [← h.tmps]; cases o.dst <;> simp [Act.put]
  · intro t ht
    rw [hput]
    have hne : ¬ (o.dst = some t ∧ t < a.tmps.size) := by
      rintro ⟨e, _⟩
      have hw := hop.1.2
      rw [e] at hw
      have hw' : writerOf l t = some i := by simpa using hw
      have := ht i hw'
      simp [Array.getD, hi] at this
    rw [if_neg hne]
    refine h.old t fun j hj => ?_
    have h1 := ht j hj
    by_cases e : i = j
    · subst e; exact hf'
    · rwa [getD_set_ne false e] at h1
  · intro t j hj hl ht
    rw [hput]
    by_cases e : i = j
    · subst e
      obtain ⟨o', ho', hd⟩ := writerOf_dst hj
      have : o' = o := Option.some.inj (ho'.symm.trans ho)
      subst this
      rw [if_pos ⟨hd, by rw [h.tmps]; exact ht⟩]
      exact hv
    · rw [getD_set_ne false e] at hl
      have hne : ¬ (o.dst = some t ∧ t < a.tmps.size) := by
        rintro ⟨e1, _⟩
        have hw := hop.1.2
        rw [e1] at hw
        have hw' : writerOf l t = some i := by simpa using hw
        exact e (Option.some.inj (hw'.symm.trans hj))
      rw [if_neg hne]
      exact hΦ _ _ _ _ (h.new t j hj hl ht) hw
  · intro k ok hk hl e he hb
    have hset : ∀ m, listed.getD m false = true → (listed.setIfInBounds i true).getD m false = true := by
      intro m hm
      by_cases e1 : i = m
      · subst e1; rw [hf'] at hm; cases hm
      · rw [getD_set_ne false e1]; exact hm
    by_cases e1 : i = k
    · subst e1
      have : ok = o := Option.some.inj (hk.symm.trans ho)
      subst this
      exact hset _ (hall e he hb)
    · rw [getD_set_ne false e1] at hl
      exact hset _ (h.closed k ok hk hl e he hb)

/-- What is known of the slots at the end. -/
structure RegEnd (l : List Oper) (a0 : Act) (w0 : World) (G : World → World → Prop) (Φ : Nat → World → Value → Prop) (a : Act) (w : World) : Prop where
  grown : G w0 w
  defers : a.defers = a0.defers
  size : a.tmps.size = a0.tmps.size
  old : ∀ t, writerOf l t = none → a.tmps.getD t undef = a0.tmps.getD t undef
  new : ∀ t j, writerOf l t = some j → t < a0.tmps.size → Φ j w (a.tmps.getD t undef)

theorem wpAny_of_inv {l : List Oper} (hB : regFrom l 0 l = true) {a0 : Act} {w0 : World} {G : World → World → Prop} (hG : ∀ a b c, G a b → G b c → G a c) {Φ : Nat → World → Value → Prop} (hΦ : ∀ j w w' v, Φ j w v → G w w' → Φ j w' v)
    {Q : Exit → Act → World → Prop} (hstep : StepsOk P l a0 w0 G Φ Q 0 l) (hend : ∀ a w, RegEnd l a0 w0 G Φ a w → Q .normal a w) (hsz : ∀ t j, writerOf l t = some j → t < a0.tmps.size) :
    ∀ (f : Nat) (listed : Array Bool) (a : Act) (w : World), listed.toList.count false = f → RegInv l a0 w0 G Φ listed a w → wpAny P .any l.toArray Q f listed a w := by
  have fin : ∀ (listed : Array Bool) (a : Act) (w : World), listed.toList.count false = 0 → RegInv l a0 w0 G Φ listed a w → Q .normal a w := by
    intro listed a w hc h
    refine hend a w ⟨h.grown, h.defers, h.tmps, fun t ht => h.old t fun j hj => ?_, fun t j hj ht => h.new t j hj ?_ ht⟩
    · rw [ht] at hj; cases hj
    · obtain ⟨o', ho', _⟩ := writerOf_dst hj
      have hlt : j < listed.size := by rw [h.size]; exact (List.getElem?_eq_some_iff.1 ho').1
      rw [List.count_eq_zero] at hc
      have hm : listed[j] ∈ listed.toList := by simp
      rcases Bool.eq_false_or_eq_true listed[j] with h1 | h1
      · simp [Array.getD, hlt, h1]
      · rw [h1] at hm; exact absurd hm hc
  intro f
  induction f with
  | zero =>
    intro listed a w hc h
    refine ⟨?_, fin listed a w hc h⟩
    cases hr : Region.ready .any l.toArray listed with
    | nil => rfl
    | cons i r =>
      exfalso
      have hi : i ∈ Region.ready .any l.toArray listed := by rw [hr]; exact List.mem_cons_self
      obtain ⟨h1, _⟩ := mem_ready.1 hi
      obtain ⟨hlt, h2⟩ := getD_false_true h1
      rw [List.count_eq_zero] at hc
      refine hc ?_
      have : listed[i] = false := by simpa [Array.getD, hlt] using h2
      rw [← this]
      simp
  | succ f ih =>
    intro listed a w hc h
    refine ⟨fun hr => fin listed a w (ready_some hB h.size hr) h, fun i hi => ?_⟩
    obtain ⟨hf, o, ho, hall⟩ := mem_ready.1 hi
    have ho' : l[i]? = some o := by simpa using ho
    obtain ⟨hlt, hff⟩ := getD_false_true hf
    have hcount := count_set hlt hff
    have hst := StepsOk.at_ l 0 hstep i o ho'
    rw [Nat.zero_add] at hst
    have hop := regFrom_at l 0 hB i o ho'
    rw [Nat.zero_add] at hop
    simp only [regOp, Bool.and_eq_true] at hop
    have hkn : ∀ t ∈ tmpsOf l o, slotKnown l a0 Φ o a w t := by
      intro t ht
      have h3 := List.all_eq_true.1 hop.2 t ht
      unfold slotKnown
      cases hwr : writerOf l t with
      | none => exact h.old t fun j hj => by rw [hwr] at hj; cases hj
      | some j =>
        rw [hwr] at h3
        simp only [Bool.or_eq_true] at h3
        dsimp only
        split
        · rename_i hwo
          simp only [waitsOn, Array.any_eq_true', Bool.and_eq_true, beq_iff_eq] at hwo
          obtain ⟨e, he, hb, hon⟩ := hwo
          have hl := hall e he hb
          rw [hon] at hl
          exact h.new t j hwr hl (hsz t j hwr)
        · rename_i hwo
          rcases h3 with h3 | h3
          · exact absurd h3 hwo
          · refine h.old t fun k hk => ?_
            have : k = j := Option.some.inj (hk.symm.trans hwr)
            subst this
            obtain ⟨ok, hok, _⟩ := writerOf_dst hwr
            rw [hok] at h3
            simp only [Option.map_some, Option.getD_some, waitsOn, Array.any_eq_true', Bool.and_eq_true, beq_iff_eq] at h3
            obtain ⟨e, he, hb, hon⟩ := h3
            -- operation k waits for i, which has not come up: so k has not
            cases hlk : listed.getD k false with
            | false => rfl
            | true =>
              have := h.closed k ok hok hlk e he hb
              rw [hon, hff] at this
              cases this
    unfold wpOp
    simp only [ho]
    have hs := hst a w h.grown hkn (wpAny P .any l.toArray Q f (listed.setIfInBounds i true)) (fun v w' hv hw => ih _ _ _ (by omega) (h.step hB hG hΦ ho' hf hall v w' hv hw))
    split
    · rename_i hwt; rw [if_pos hwt] at hs; exact .inl hs
    · rename_i hwt; rw [if_neg hwt] at hs; exact hs

/-- A region that draws its order: 'Φ j w v': what is known, in world w and later ones, of the value v that operation j has yielded. -/
theorem wp_region_inv {id : Nat} {l : List Oper} {a0 : Act} {w0 : World} {Q : Exit → Act → World → Prop} (hm : P.follows .mixedOrders = true) (hB : regFrom l 0 l = true) (hsz : ∀ t j, writerOf l t = some j → t < a0.tmps.size)
    (G : World → World → Prop) (hG : ∀ a b c, G a b → G b c → G a c) (hG0 : G w0 { w0 with drawn := w0.drawn + 1 }) (Φ : Nat → World → Value → Prop) (hΦ : ∀ j w w' v, Φ j w v → G w w' → Φ j w' v)
    (hstep : StepsOk P l a0 w0 G Φ Q 0 l) (hend : ∀ a w, RegEnd l a0 w0 G Φ a w → Q .normal a w) : (Code.region id l.toArray true).wp P Q a0 w0 := by
  refine wp_region_any hm (wpAny_of_inv hB hG hΦ hstep hend hsz _ _ _ _ ?_ ⟨by simp, hG0, rfl, rfl, fun _ _ => rfl, ?_, ?_⟩)
  · simp
  · intro t j _ hl _
    rw [getD_replicate_false] at hl
    cases hl
  · intro k o _ hl
    rw [getD_replicate_false] at hl
    cases hl

/-- The slots that the region's operations look at or write. -/
def dstB (l : List Oper) (n : Nat) : Bool := l.all fun o => match o.dst with | some d => decide (d < n) | none => true
def looksB (l : List Oper) : Bool := (List.range l.length).all fun i => match l[i]? with | some o => ((tmpsOf l o).all fun t => (match writerOf l t with | some j => waitsOn o j | none => true)) | none => true

/-- THE SAME BY A FRAME: 'vals': what the slots hold at the end; of the slots in 'odd' alone something else is known (Θ). -/
def Slot (odd : List Tmp) (vals : List Value) (Θ : Tmp → World → Value → Prop) (t : Tmp) (w : World) (v : Value) : Prop := if t ∈ odd then Θ t w v else v = vals.getD t undef
def StepV (P : Program) (l : List Oper) (w0 : World) (G : World → World → Prop) (S : Tmp → World → Value → Prop) (Q : Exit → Act → World → Prop) (o : Oper) : Prop :=
  ∀ a w, G w0 w → (∀ t ∈ tmpsOf l o, S t w (a.tmps.getD t undef)) →
    ∀ K : Act → World → Prop, (∀ v w', (∀ d, o.dst = some d → S d w' v) → G w w' → K (a.put o.dst v) w') → if Region.wanted o (yielded l.toArray a.tmps) then o.wp P a w K Q else K (a.put o.dst undef) w
def StepsV (P : Program) (l : List Oper) (w0 : World) (G : World → World → Prop) (S : Tmp → World → Value → Prop) (Q : Exit → Act → World → Prop) : List Oper → Prop
  | [] => True
  | o :: r => StepV P l w0 G S Q o ∧ StepsV P l w0 G S Q r

theorem StepsV.steps {l : List Oper} (hB : regFrom l 0 l = true) {a0 : Act} {w0 : World} {G : World → World → Prop} {S : Tmp → World → Value → Prop} {Q : Exit → Act → World → Prop}
    (hL : looksB l = true) (h0 : ∀ t w, writerOf l t = none → G w0 w → (∃ o ∈ l, t ∈ tmpsOf l o) → S t w (a0.tmps.getD t undef)) :
    ∀ (r : List Oper) (k : Nat), (∀ i o, r[i]? = some o → l[k + i]? = some o) → StepsV P l w0 G S Q r →
      StepsOk P l a0 w0 G (fun j w v => ∀ o d, l[j]? = some o → o.dst = some d → S d w v) Q k r
  | [], _, _, _ => trivial
  | o :: r, k, hl, h => by
    refine ⟨?_, StepsV.steps hB hL h0 r (k + 1) (fun i o' hi => by have := hl (i + 1) o' (by simpa using hi); rwa [show k + (i + 1) = k + 1 + i by omega] at this) h.2⟩
    have hk : l[k]? = some o := hl 0 o rfl
    intro a w hG hkn K hK
    refine h.1 a w hG (fun t ht => ?_) K (fun v w' hv hw => hK v w' (fun o' d ho' hd => ?_) hw)
    · have h1 := hkn t ht
      unfold slotKnown at h1
      cases hwr : writerOf l t with
      | none =>
        rw [hwr] at h1
        dsimp only at h1
        rw [h1]
        exact h0 t w hwr hG ⟨o, List.mem_of_getElem? hk, ht⟩
      | some j =>
        rw [hwr] at h1
        dsimp only at h1
        have hw : waitsOn o j = true := by
          have h2 := List.all_eq_true.1 hL k (by rw [List.mem_range]; exact (List.getElem?_eq_some_iff.1 hk).1)
          rw [hk] at h2
          dsimp only at h2
          have h3 := List.all_eq_true.1 h2 t ht
          rw [hwr] at h3
          exact h3
        rw [if_pos hw] at h1
        obtain ⟨oj, hoj, hd⟩ := writerOf_dst hwr
        exact h1 oj t hoj hd
    · have : o' = o := Option.some.inj (ho'.symm.trans hk)
      subst this
      exact hv d hd

theorem wp_region_vals {id : Nat} {l : List Oper} {a0 : Act} {w0 : World} {Q : Exit → Act → World → Prop} (hm : P.follows .mixedOrders = true) (hB : regFrom l 0 l = true) (hL : looksB l = true) (hD : dstB l a0.tmps.size = true)
    (G : World → World → Prop) (hG : ∀ a b c, G a b → G b c → G a c) (hG0 : G w0 { w0 with drawn := w0.drawn + 1 }) (S : Tmp → World → Value → Prop) (hS : ∀ t w w' v, S t w v → G w w' → S t w' v)
    (h0 : ∀ t w, writerOf l t = none → G w0 w → (∃ o ∈ l, t ∈ tmpsOf l o) → S t w (a0.tmps.getD t undef)) (hstep : StepsV P l w0 G S Q l)
    (hend : ∀ a w, G w0 w → a.defers = a0.defers → a.tmps.size = a0.tmps.size → (∀ t, writerOf l t = none → a.tmps.getD t undef = a0.tmps.getD t undef) → (∀ t j, writerOf l t = some j → S t w (a.tmps.getD t undef)) → Q .normal a w) : (Code.region id l.toArray true).wp P Q a0 w0 := by
  have hsz : ∀ t j, writerOf l t = some j → t < a0.tmps.size := by
    intro t j h
    obtain ⟨o, ho, hd⟩ := writerOf_dst h
    have := List.all_eq_true.1 hD o (List.mem_of_getElem? ho)
    rw [hd] at this
    simpa using this
  refine wp_region_inv hm hB hsz G hG hG0 (fun j w v => ∀ o d, l[j]? = some o → o.dst = some d → S d w v) (fun j w w' v h hw o d ho hd => hS _ _ _ _ (h o d ho hd) hw) (StepsV.steps hB hL h0 l 0 (fun i o h => by simpa using h) hstep) ?_
  intro a w h
  refine hend a w h.grown h.defers h.size h.old (fun t j hj => ?_)
  obtain ⟨o, ho, hd⟩ := writerOf_dst hj
  exact h.new t j hj (hsz t j hj) o t ho hd
/-- Without guards: what each operation owes names no other operation. -/
def opTmps (o : Oper) : List Tmp := o.op.operands.toList.filterMap fun | .tmp t => some t | _ => none
def StepU (P : Program) (w0 : World) (G : World → World → Prop) (S : Tmp → World → Value → Prop) (Q : Exit → Act → World → Prop) (o : Oper) : Prop :=
  ∀ a w, G w0 w → (∀ t ∈ opTmps o, S t w (a.tmps.getD t undef)) →
    ∀ K : Act → World → Prop, (∀ v w', (∀ d, o.dst = some d → S d w' v) → G w w' → K (a.put o.dst v) w') → o.wp P a w K Q
def StepsU (P : Program) (w0 : World) (G : World → World → Prop) (S : Tmp → World → Value → Prop) (Q : Exit → Act → World → Prop) : List Oper → Prop
  | [] => True
  | o :: r => StepU P w0 G S Q o ∧ StepsU P w0 G S Q r
def freeB (l : List Oper) : Bool := l.all fun o => o.guard.isNone
theorem StepsU.vals {l : List Oper} {w0 : World} {G : World → World → Prop} {S : Tmp → World → Value → Prop} {Q : Exit → Act → World → Prop} : ∀ (r : List Oper), freeB r = true → StepsU P w0 G S Q r → StepsV P l w0 G S Q r
  | [], _, _ => trivial
  | o :: r, hf, h => by
    simp only [freeB, List.all_cons, Bool.and_eq_true] at hf
    refine ⟨fun a w hG hk K hK => ?_, StepsU.vals r hf.2 h.2⟩
    have hg : o.guard = none := by simpa using hf.1
    have hw : Region.wanted o (yielded l.toArray a.tmps) = true := by simp [Region.wanted, hg]
    rw [if_pos hw]
    exact h.1 a w hG (fun t ht => hk t (by simp only [tmpsOf, hg]; simpa [opTmps] using ht)) K hK

def oldB (l : List Oper) (old : List Tmp) : Bool := l.all fun o => (tmpsOf l o).all fun t => (writerOf l t).isSome || old.elem t
theorem wp_region_free {id : Nat} {l : List Oper} {a0 : Act} {w0 : World} {Q : Exit → Act → World → Prop} (hm : P.follows .mixedOrders = true) (old : List Tmp) (hB : (regFrom l 0 l && looksB l && dstB l a0.tmps.size && freeB l && oldB l old) = true)
    (G : World → World → Prop) (hG : ∀ a b c, G a b → G b c → G a c) (hG0 : G w0 { w0 with drawn := w0.drawn + 1 }) (S : Tmp → World → Value → Prop) (hS : ∀ t w w' v, S t w v → G w w' → S t w' v)
    (h0 : ∀ t ∈ old, ∀ w, G w0 w → S t w (a0.tmps.getD t undef)) (hstep : StepsU P w0 G S Q l)
    (hend : ∀ a w, G w0 w → a.defers = a0.defers → a.tmps.size = a0.tmps.size → (∀ t, writerOf l t = none → a.tmps.getD t undef = a0.tmps.getD t undef) → (∀ t j, writerOf l t = some j → S t w (a.tmps.getD t undef)) → Q .normal a w) : (Code.region id l.toArray true).wp P Q a0 w0 := by
  simp only [Bool.and_eq_true] at hB
  refine wp_region_vals hm hB.1.1.1.1 hB.1.1.1.2 hB.1.1.2 G hG hG0 S hS ?_ (StepsU.vals l hB.1.2 hstep) hend
  rintro t w hw hg ⟨o, ho, ht⟩
  refine h0 t ?_ w hg
  have := List.all_eq_true.1 (List.all_eq_true.1 hB.2 o ho) t ht
  rw [hw] at this
  exact List.mem_of_elem_eq_true (by simpa using this)
theorem extract_getD (listed : Array Bool) (n i : Nat) (d : Bool) (hi : i < n) : (listed.extract 0 n).getD i d = listed.getD i d := by
  simp only [Array.getD_eq_getD_getElem?, Array.getElem?_extract]
  by_cases h : i < listed.size
  · rw [if_pos (by omega)]; simp
  · rw [if_neg (by omega), Array.getElem?_eq_none (by omega)]
theorem extract_set (listed : Array Bool) (n i : Nat) : (listed.setIfInBounds i true).extract 0 n = (listed.extract 0 n).setIfInBounds i true := by
  apply Array.ext_getElem?
  intro k
  simp only [Array.getElem?_extract, Array.getElem?_setIfInBounds, Array.size_setIfInBounds, Array.size_extract, Nat.zero_add, Nat.sub_zero]
  by_cases hk : k < min n listed.size
  · by_cases e : i = k
    · subst e
      rw [if_pos hk, if_pos rfl, if_pos rfl, if_pos (by omega)]
      rw [if_pos (by omega)]
    · rw [if_pos hk, if_neg e, if_neg e, if_pos hk]
  · by_cases e : i = k
    · subst e
      rw [if_neg hk, if_pos rfl, if_neg (by omega)]
    · rw [if_neg hk, if_neg e, if_neg hk]

/-- What a region with a tail must satisfy: it draws the order of its first n operations alone. -/
def tailB (l : List Oper) (n m : Nat) (old : List Tmp) : Bool :=
  regFrom (l.take n) 0 (l.take n) && looksB (l.take n) && dstB (l.take n) m && freeB (l.take n) && oldB (l.take n) old &&
  decide (n < l.length) && Region.sinkB .any l.toArray n && Region.chainB .any l.toArray n && Region.seqB .any l.toArray (l.length - n) n (Array.replicate n true ++ Array.replicate (l.length - n) false)

theorem StepsU.at_ {P : Program} {w0 : World} {G : World → World → Prop} {S : Tmp → World → Value → Prop} {Q : Exit → Act → World → Prop} : ∀ {r : List Oper}, StepsU P w0 G S Q r → ∀ (i : Nat) (o : Oper), r[i]? = some o → StepU P w0 G S Q o
  | [], _, i, o, h => by simp at h
  | x :: r, hr, 0, o, h => by
    simp at h
    subst h
    exact hr.1
  | x :: r, hr, i + 1, o, h => StepsU.at_ hr.2 i o (by simpa using h)

theorem wpAny_of_tail {l : List Oper} {n : Nat} (hn : n < l.length) (hB : regFrom (l.take n) 0 (l.take n) = true) (hL : looksB (l.take n) = true) (hF : freeB (l.take n) = true) (hk : Region.sinkB .any l.toArray n = true) (hc : Region.chainB .any l.toArray n = true)
    (hq : Region.seqB .any l.toArray (l.length - n) n (Array.replicate n true ++ Array.replicate (l.length - n) false) = true)
    {a0 : Act} {w0 : World} {G : World → World → Prop} (hG : ∀ a b c, G a b → G b c → G a c) {S : Tmp → World → Value → Prop} (hS : ∀ t w w' v, S t w v → G w w' → S t w' v)
    {Q : Exit → Act → World → Prop} (h0 : ∀ t w, writerOf (l.take n) t = none → G w0 w → (∃ o ∈ l.take n, t ∈ tmpsOf (l.take n) o) → S t w (a0.tmps.getD t undef)) (hstep : StepsU P w0 G S Q (l.take n))
    (hend : ∀ a w, RegEnd (l.take n) a0 w0 G (fun j w v => ∀ o d, (l.take n)[j]? = some o → o.dst = some d → S d w v) a w → wpList P l.toArray Q (l.drop n) a w) (hsz : ∀ t j, writerOf (l.take n) t = some j → t < a0.tmps.size) :
    ∀ (f : Nat) (listed : Array Bool) (a : Act) (w : World), (listed.extract 0 n).toList.count false = f → HeadInv .any l.toArray n listed → RegInv (l.take n) a0 w0 G (fun j w v => ∀ o d, (l.take n)[j]? = some o → o.dst = some d → S d w v) (listed.extract 0 n) a w → wpAny P .any l.toArray Q (f + (l.length - n)) listed a w := by
  have hS' : ∀ (j : Nat) (w w' : World) (v : Value), (∀ o d, (l.take n)[j]? = some o → o.dst = some d → S d w v) → G w w' → (∀ o d, (l.take n)[j]? = some o → o.dst = some d → S d w' v) := fun j w w' v h hw o d ho hd => hS _ _ _ _ (h o d ho hd) hw
  intro f
  induction f with
  | zero =>
    intro listed a w hz hI h
    have hall : ∀ i, i < n → listed.getD i false = true := by
      intro i hi
      rw [List.count_eq_zero] at hz
      have hs := hI.size
      have hi' : i < listed.size := by rw [hs]; simp; omega
      have hm : listed[i] ∈ (listed.extract 0 n).toList := by
        rw [Array.mem_toList_iff, Array.mem_iff_getElem?]
        exact ⟨i, by rw [Array.getElem?_extract, if_pos (by omega)]; simp [hi']⟩
      rcases Bool.eq_false_or_eq_true listed[i] with h1 | h1
      · simp [Array.getD, hi', h1]
      · rw [h1] at hm; exact absurd hm hz
    have hlist : listed = Array.replicate n true ++ Array.replicate (l.length - n) false := by
      have hs := hI.size
      simp only [List.size_toArray] at hs
      apply Array.ext_getElem?
      intro k
      rw [Array.getElem?_append]
      simp only [Array.size_replicate, Array.getElem?_replicate]
      by_cases hk' : k < n
      · rw [if_pos hk', if_pos hk']
        have := hall k hk'
        have hk2 : k < listed.size := by omega
        simp [Array.getD, hk2] at this
        rw [Array.getElem?_eq_getElem hk2, this]
      · rw [if_neg hk']
        by_cases hk2 : k < l.length
        · rw [if_pos (by omega)]
          have := hI.tail k (by omega) (by simpa using hk2)
          have hk3 : k < listed.size := by omega
          simp [Array.getD, hk3] at this
          rw [Array.getElem?_eq_getElem hk3, this]
        · rw [if_neg (by omega), Array.getElem?_eq_none (by omega)]
    have hw := hend a w ⟨h.grown, h.defers, h.tmps, fun t ht => h.old t fun j hj => (by rw [ht] at hj; cases hj), fun t j hj ht => h.new t j hj (by
      obtain ⟨o', ho', _⟩ := writerOf_dst hj
      have hlt : j < (l.take n).length := (List.getElem?_eq_some_iff.1 ho').1
      rw [extract_getD _ _ _ _ (by simp at hlt; omega)]
      exact hall j (by simp at hlt; omega)) ht⟩
    have := wpAny_of_seq (P := P) (md := .any) (ops := l.toArray) (Q' := Q) (l.drop n) n listed a w (fun j => by simp [List.getElem?_drop]) (by rw [hlist, List.length_drop]; exact hq) hw
    rw [Nat.zero_add]
    rwa [List.length_drop] at this
  | succ f ih =>
    intro listed a w hz hI h
    have hsl := hI.size
    simp only [List.size_toArray] at hsl
    -- some operation of the head is left
    have hex : ∃ i, i < n ∧ listed.getD i true = false := by
      have hm : false ∈ (listed.extract 0 n).toList := by rw [← List.count_pos_iff]; omega
      obtain ⟨i, hi, he⟩ := List.getElem_of_mem hm
      have hi' : i < n := by simp at hi; omega
      have hi2 : i < listed.size := by omega
      refine ⟨i, hi', ?_⟩
      simp at he
      simp [Array.getD, hi2, he]
    obtain ⟨i0, hi0, hu0⟩ := hex
    have hlow : ∀ t, t ∈ Region.ready .any l.toArray listed → t < n := by
      intro t ht
      rcases Nat.lt_or_ge t n with h1 | h1
      · exact h1
      · exact absurd ht (tail_waits hk hc (by simpa using hn) hI (n - i0) i0 rfl hi0 hu0 t h1)
    have hhead : ∀ (i : Nat) (o : Oper), i < n → (l[i]? = some o ↔ (l.take n)[i]? = some o) := by
      intro i o hi
      rw [List.getElem?_take_of_lt hi]
    have hready : ∀ i, i ∈ Region.ready .any (l.take n).toArray (listed.extract 0 n) → i ∈ Region.ready .any l.toArray listed := by
      intro i hi
      obtain ⟨h1, o, ho, h2⟩ := mem_ready.1 hi
      have ho' : (l.take n)[i]? = some o := by simpa using ho
      have hin : i < n := by have := (List.getElem?_eq_some_iff.1 ho').1; simp at this; omega
      rw [extract_getD _ _ _ _ hin] at h1
      refine mem_ready.2 ⟨h1, o, by simpa using (hhead i o hin).2 ho', fun e he hb => ?_⟩
      have h3 := h2 e he hb
      have hop := regFrom_at (l.take n) 0 hB i o ho'
      rw [Nat.zero_add] at hop
      simp only [regOp, Bool.and_eq_true] at hop
      have h4 := Array.all_eq_true'.1 hop.1.1 e he
      simp [hb] at h4
      rwa [extract_getD _ _ _ _ (by omega)] at h3
    rw [show f + 1 + (l.length - n) = (f + (l.length - n)) + 1 by omega]
    refine ⟨fun hr => ?_, fun i hi => ?_⟩
    · exfalso
      have h1 : Region.ready .any (l.take n).toArray (listed.extract 0 n) = [] := by
        cases h2 : Region.ready .any (l.take n).toArray (listed.extract 0 n) with
        | nil => rfl
        | cons x r =>
          have := hready x (by rw [h2]; exact List.mem_cons_self)
          rw [hr] at this
          cases this
      have := ready_some hB h.size h1
      omega
    · have hin := hlow i hi
      obtain ⟨hf, o, ho, hall⟩ := mem_ready.1 hi
      have ho' : l[i]? = some o := by simpa using ho
      have ho2 := (hhead i o hin).1 ho'
      have hop := regFrom_at (l.take n) 0 hB i o ho2
      rw [Nat.zero_add] at hop
      simp only [regOp, Bool.and_eq_true] at hop
      have hf2 : (listed.extract 0 n).getD i true = false := by rw [extract_getD _ _ _ _ hin]; exact hf
      have hall2 : ∀ e ∈ o.after, Region.binds .any e = true → (listed.extract 0 n).getD e.on false = true := by
        intro e he hb
        have h4 := Array.all_eq_true'.1 hop.1.1 e he
        simp [hb] at h4
        rw [extract_getD _ _ _ _ (by omega)]
        exact hall e he hb
      obtain ⟨hlt, hff⟩ := getD_false_true hf2
      have hcount := count_set hlt hff
      have hg : o.guard = none := by
        have := List.all_eq_true.1 hF o (List.mem_of_getElem? ho2)
        simpa using this
      have hst := StepsU.at_ hstep i o ho2
      have hkn : ∀ t ∈ opTmps o, S t w (a.tmps.getD t undef) := by
        intro t ht
        have ht2 : t ∈ tmpsOf (l.take n) o := by simp only [tmpsOf, hg]; simpa [opTmps] using ht
        cases hwr : writerOf (l.take n) t with
        | none =>
          rw [h.old t fun j hj => by rw [hwr] at hj; cases hj]
          exact h0 t w hwr h.grown ⟨o, List.mem_of_getElem? ho2, ht2⟩
        | some j =>
          have h2 := List.all_eq_true.1 hL i (by rw [List.mem_range]; exact (List.getElem?_eq_some_iff.1 ho2).1)
          rw [ho2] at h2
          dsimp only at h2
          have h3 := List.all_eq_true.1 h2 t ht2
          rw [hwr] at h3
          have h3 : waitsOn o j = true := h3
          simp only [waitsOn, Array.any_eq_true', Bool.and_eq_true, beq_iff_eq] at h3
          obtain ⟨e, he, hb, hon⟩ := h3
          have hl := hall2 e he hb
          rw [hon] at hl
          obtain ⟨oj, hoj, hd⟩ := writerOf_dst hwr
          exact h.new t j hwr hl (hsz t j hwr) oj t hoj hd
      unfold wpOp
      simp only [ho]
      have hw : Region.wanted o (yielded l.toArray a.tmps) = true := by simp [Region.wanted, hg]
      rw [if_pos hw]
      refine .inl (hst a w h.grown hkn _ fun v w' hv hww => ih _ _ _ ?_ (hI.set hi hin) ?_)
      · rw [extract_set]; omega
      · rw [extract_set]
        exact h.step hB hG hS' ho2 hf2 hall2 v w' (fun o' d ho' hd => by
          have : o' = o := Option.some.inj (ho'.symm.trans ho2)
          subst this
          exact hv d hd) hww

/-- A region that draws the order of its first n operations; the others come up last, one after the other. -/
theorem wp_region_tail {id : Nat} {l : List Oper} {a0 : Act} {w0 : World} {Q : Exit → Act → World → Prop} (hm : P.follows .mixedOrders = true) (n : Nat) (old : List Tmp) (hB : tailB l n a0.tmps.size old = true)
    (G : World → World → Prop) (hG : ∀ a b c, G a b → G b c → G a c) (hG0 : G w0 { w0 with drawn := w0.drawn + 1 }) (S : Tmp → World → Value → Prop) (hS : ∀ t w w' v, S t w v → G w w' → S t w' v)
    (h0 : ∀ t ∈ old, ∀ w, G w0 w → S t w (a0.tmps.getD t undef)) (hstep : StepsU P w0 G S Q (l.take n))
    (hend : ∀ a w, G w0 w → a.defers = a0.defers → a.tmps.size = a0.tmps.size → (∀ t, writerOf (l.take n) t = none → a.tmps.getD t undef = a0.tmps.getD t undef) → (∀ t j, writerOf (l.take n) t = some j → S t w (a.tmps.getD t undef)) → wpList P l.toArray Q (l.drop n) a w) : (Code.region id l.toArray true).wp P Q a0 w0 := by
  simp only [tailB, Bool.and_eq_true, decide_eq_true_eq] at hB
  obtain ⟨⟨⟨⟨⟨⟨⟨⟨hR, hL⟩, hD⟩, hF⟩, hO⟩, hn⟩, hk⟩, hc⟩, hq⟩ := hB
  have hsz : ∀ t j, writerOf (l.take n) t = some j → t < a0.tmps.size := by
    intro t j h
    obtain ⟨o, ho, hd⟩ := writerOf_dst h
    have := List.all_eq_true.1 hD o (List.mem_of_getElem? ho)
    rw [hd] at this
    simpa using this
  refine wp_region_any hm ?_
  have H := wpAny_of_tail (P := P) hn hR hL hF hk hc hq hG hS (Q := Q) ?_ hstep ?_ hsz n (Array.replicate l.toArray.size false) a0 { w0 with drawn := w0.drawn + 1 } ?_ ?_ ?_
  · rw [show n + (l.length - n) = l.toArray.size by (simp; omega)] at H
    exact H
  · rintro t w hw hg ⟨o, ho, ht⟩
    refine h0 t ?_ w hg
    have := List.all_eq_true.1 (List.all_eq_true.1 hO o ho) t ht
    rw [hw] at this
    exact List.mem_of_elem_eq_true (by simpa using this)
  · intro a w h
    refine hend a w h.grown h.defers h.size h.old fun t j hj => ?_
    obtain ⟨o, ho, hd⟩ := writerOf_dst hj
    exact h.new t j hj (hsz t j hj) o t ho hd
  · (simp <;> omega)
  · exact ⟨by simp, fun j oj _ hl => (by rw [getD_replicate_false] at hl; cases hl), fun t _ ht => getD_in (by simpa using ht) (getD_replicate_false _ _)⟩
  · refine ⟨by simp <;> omega, hG0, rfl, rfl, fun _ _ => rfl, ?_, ?_⟩
    · intro t j hj hl _
      have hjn : j < n := by
        obtain ⟨o', ho', _⟩ := writerOf_dst hj
        have hlt : j < (l.take n).length := (List.getElem?_eq_some_iff.1 ho').1
        simp at hlt; omega
      rw [extract_getD _ _ _ _ hjn, getD_replicate_false] at hl
      cases hl
    · intro k o hk' hl
      have hjn : k < n := by
        have hlt : k < (l.take n).length := (List.getElem?_eq_some_iff.1 hk').1
        simp at hlt; omega
      rw [extract_getD _ _ _ _ hjn, getD_replicate_false] at hl
      cases hl
/-- A frame, as it was, but for these slots. -/
def puts (a : Act) : List (Tmp × Value) → Act
  | [] => a
  | (t, v) :: r => puts (a.put (some t) v) r
def knownAll (a : Act) : List (Tmp × Value) → Prop
  | [] => True
  | (t, v) :: r => a.tmps.getD t undef = v ∧ knownAll a r
theorem puts_eq {a : Act} : ∀ (l : List (Tmp × Value)) (a0 : Act), a.defers = a0.defers → a.tmps.size = a0.tmps.size → (∀ t, t ∉ l.map Prod.fst → a.tmps.getD t undef = a0.tmps.getD t undef) → knownAll a l → a = puts a0 l
  | [], a0, hd, hs, ho, _ => by
    obtain ⟨tm, df⟩ := a
    obtain ⟨tm0, df0⟩ := a0
    have hd : df = df0 := hd
    subst hd
    have : tm = tm0 := by
      apply Array.ext
      · exact hs
      · intro i h1 h2
        have := ho i (by simp)
        have h1' : i < tm.size := h1
        have h2' : i < tm0.size := h2
        simpa [Array.getD, h1', h2'] using this
    rw [this]; rfl
  | (t, v) :: r, a0, hd, hs, ho, hk => by
    refine puts_eq r (a0.put (some t) v) hd (by simpa [Act.put] using hs) (fun s hsr => ?_) hk.2
    by_cases e : s = t
    · subst e
      have h1 := hk.1
      by_cases hlt : s < a0.tmps.size
      · rw [h1]; simp [Act.put, hlt]
      · have hlt' : ¬ s < a.tmps.size := by rw [hs]; exact hlt
        simp [Array.getD, hlt'] at h1
        simp [Act.put, Array.getD, hlt, hlt']
    · have h1 := ho s (by simp [e]; simpa using hsr)
      rw [h1]
      simp only [Act.put, Array.getD_eq_getD_getElem?]
      rw [Array.getElem?_setIfInBounds_ne (Ne.symm e)]
theorem frame_puts {l : List Oper} {a a0 : Act} (ps : List (Tmp × Value)) (hd : a.defers = a0.defers) (hs : a.tmps.size = a0.tmps.size) (hold : ∀ t, writerOf l t = none → a.tmps.getD t undef = a0.tmps.getD t undef)
    (hB : (l.all fun o => match o.dst with | some d => (ps.map Prod.fst).elem d | none => true) = true) (hk : knownAll a ps) : a = puts a0 ps := by
  refine puts_eq ps a0 hd hs (fun t ht => hold t ?_) hk
  cases hw : writerOf l t with
  | none => rfl
  | some j =>
    exfalso
    obtain ⟨o, ho, hd⟩ := writerOf_dst hw
    have := List.all_eq_true.1 hB o (List.mem_of_getElem? ho)
    rw [hd] at this
    exact ht (List.mem_of_elem_eq_true this)
end
end Go.Proofs.YtljbclkbmjjmdaaGreatDoor
