/- A region that draws its order, some of whose operations are guarded. -/
import Derived.Test.YtljbclkbmjjmdaaGreatDoorReg
namespace Go.Proofs.YtljbclkbmjjmdaaGreatDoor
open Go.RowKit Go.Shelf
section
variable {P : Program}
/-- Which slot says whether an operation runs. -/
def guardIs (l : List Oper) (m : Nat) (g : Option (Nat × Bool)) (gd : Option (Tmp × Bool)) : Prop :=
  match g with
  | none => gd = none
  | some (j, b) => ∃ t og, l[j]? = some og ∧ og.dst = some t ∧ t < m ∧ gd = some (t, b)
def guardOk (l : List Oper) (m : Nat) (g : Option (Nat × Bool)) (gd : Option (Tmp × Bool)) : Bool :=
  match g with
  | none => gd.isNone
  | some (j, b) => match l[j]? with
    | some og => match og.dst with
      | some t => decide (t < m) && gd == some (t, b)
      | none => false
    | none => false
theorem guardOk_is {l : List Oper} {m : Nat} {g : Option (Nat × Bool)} {gd : Option (Tmp × Bool)} (h : guardOk l m g gd = true) : guardIs l m g gd := by
  unfold guardOk at h
  unfold guardIs
  cases g with
  | none => simpa using h
  | some jb =>
    obtain ⟨j, b⟩ := jb
    dsimp only at h ⊢
    split at h
    · rename_i og hj
      split at h
      · rename_i t ht
        simp only [Bool.and_eq_true, decide_eq_true_eq, beq_iff_eq] at h
        exact ⟨t, og, hj, ht, h.1, h.2⟩
      · cases h
    · cases h
def guardsFrom (l : List Oper) (m : Nat) : List Oper → List (Option (Tmp × Bool)) → Bool
  | [], [] => true
  | o :: r, gd :: gs => guardOk l m o.guard gd && guardsFrom l m r gs
  | _, _ => false
def guardsB (l : List Oper) (gl : List (Option (Tmp × Bool))) (m : Nat) : Bool := guardsFrom l m l gl
theorem guardsFrom_at {l : List Oper} {m : Nat} : ∀ {r : List Oper} {gs : List (Option (Tmp × Bool))}, guardsFrom l m r gs = true → ∀ (i : Nat) (o : Oper), r[i]? = some o → ∃ gd, gs[i]? = some gd ∧ guardIs l m o.guard gd
  | [], _, _, i, o, h => by simp at h
  | x :: r, [], hB, _, _, _ => by simp [guardsFrom] at hB
  | x :: r, g :: gs, hB, 0, o, h => by
    simp only [guardsFrom, Bool.and_eq_true] at hB
    simp at h
    subst h
    exact ⟨g, rfl, guardOk_is hB.1⟩
  | x :: r, g :: gs, hB, i + 1, o, h => by
    simp only [guardsFrom, Bool.and_eq_true] at hB
    exact guardsFrom_at hB.2 i o (by simpa using h)
theorem guards_at {l : List Oper} {gl : List (Option (Tmp × Bool))} {m : Nat} (h : guardsB l gl m = true) (i : Nat) (o : Oper) (ho : l[i]? = some o) : ∃ gd, gl[i]? = some gd ∧ guardIs l m o.guard gd := guardsFrom_at h i o ho
/-- What each operation owes: where its guard's slot holds the guard's word, and where not. -/
def StepW (P : Program) (w0 : World) (G : World → World → Prop) (S : Tmp → World → Value → Prop) (Q : Exit → Act → World → Prop) (Ψ : Nat → World → Prop) (i : Nat) (gd : Option (Tmp × Bool)) (o : Oper) : Prop :=
  ∀ a w, G w0 w → (∀ t ∈ opTmps o, S t w (a.tmps.getD t undef)) →
    ∀ K : Act → World → Prop, (∀ v w', (∀ d, o.dst = some d → S d w' v) → G w w' → Ψ i w' → K (a.put o.dst v) w') →
      match gd with
      | none => o.wp P a w K Q
      | some (t, b) => S t w (a.tmps.getD t undef) → (a.tmps.getD t undef = .bool b → o.wp P a w K Q) ∧ (a.tmps.getD t undef ≠ .bool b → K (a.put o.dst undef) w)
def StepsW (P : Program) (w0 : World) (G : World → World → Prop) (S : Tmp → World → Value → Prop) (Q : Exit → Act → World → Prop) (Ψ : Nat → World → Prop) : Nat → List (Option (Tmp × Bool)) → List Oper → Prop
  | k, gd :: gs, o :: r => StepW P w0 G S Q Ψ k gd o ∧ StepsW P w0 G S Q Ψ (k + 1) gs r
  | _, _, _ => True
theorem StepsW.at_ {w0 : World} {G : World → World → Prop} {S : Tmp → World → Value → Prop} {Q : Exit → Act → World → Prop} {Ψ : Nat → World → Prop} : ∀ {k : Nat} {gs : List (Option (Tmp × Bool))} {r : List Oper}, StepsW P w0 G S Q Ψ k gs r → ∀ (i : Nat) (o : Oper) (gd : Option (Tmp × Bool)), r[i]? = some o → gs[i]? = some gd → StepW P w0 G S Q Ψ (k + i) gd o
  | _, [], _, _, i, o, gd, _, h => by simp at h
  | _, _ :: _, [], _, i, o, gd, h, _ => by simp at h
  | k, g :: gs, x :: r, hr, 0, o, gd, h, h2 => by
    simp at h h2
    subst h h2
    exact hr.1
  | k, g :: gs, x :: r, hr, i + 1, o, gd, h, h2 => by
    have := StepsW.at_ hr.2 i o gd (by simpa using h) (by simpa using h2)
    rwa [show k + 1 + i = k + (i + 1) by omega] at this
def guardB (l : List Oper) (n m : Nat) (old : List Tmp) (gl : List (Option (Tmp × Bool))) : Bool :=
  regFrom (l.take n) 0 (l.take n) && looksB (l.take n) && dstB (l.take n) m && guardsB (l.take n) gl m && oldB (l.take n) old &&
  decide (n < l.length) && Region.sinkB .any l.toArray n && Region.chainB .any l.toArray n && Region.seqB .any l.toArray (l.length - n) n (Array.replicate n true ++ Array.replicate (l.length - n) false)

theorem wpAny_of_guard {l : List Oper} {n : Nat} (hn : n < l.length) (hB : regFrom (l.take n) 0 (l.take n) = true) (hL : looksB (l.take n) = true) {a0 : Act} (gl : List (Option (Tmp × Bool))) (hF : guardsB (l.take n) gl a0.tmps.size = true) (hk : Region.sinkB .any l.toArray n = true) (hc : Region.chainB .any l.toArray n = true)
    (hq : Region.seqB .any l.toArray (l.length - n) n (Array.replicate n true ++ Array.replicate (l.length - n) false) = true)
    {w0 : World} {G : World → World → Prop} (hG : ∀ a b c, G a b → G b c → G a c) {S : Tmp → World → Value → Prop} (hS : ∀ t w w' v, S t w v → G w w' → S t w' v)
    {Q : Exit → Act → World → Prop} {Ψ : Nat → World → Prop} (hΨ : ∀ i w w', Ψ i w → G w w' → Ψ i w') (h0 : ∀ t w, writerOf (l.take n) t = none → G w0 w → (∃ o ∈ l.take n, t ∈ tmpsOf (l.take n) o) → S t w (a0.tmps.getD t undef)) (hstep : StepsW P w0 G S Q Ψ 0 gl (l.take n))
    (hend : ∀ a w, RegEnd (l.take n) a0 w0 G (fun j w v => ∀ o d, (l.take n)[j]? = some o → o.dst = some d → S d w v) a w → (∀ i, i < n → Ψ i w) → wpList P l.toArray Q (l.drop n) a w) (hsz : ∀ t j, writerOf (l.take n) t = some j → t < a0.tmps.size) :
    ∀ (f : Nat) (listed : Array Bool) (a : Act) (w : World), (listed.extract 0 n).toList.count false = f → HeadInv .any l.toArray n listed → RegInv (l.take n) a0 w0 G (fun j w v => ∀ o d, (l.take n)[j]? = some o → o.dst = some d → S d w v) (listed.extract 0 n) a w → (∀ i, i < n → listed.getD i false = true → Ψ i w) → wpAny P .any l.toArray Q (f + (l.length - n)) listed a w := by
  have hS' : ∀ (j : Nat) (w w' : World) (v : Value), (∀ o d, (l.take n)[j]? = some o → o.dst = some d → S d w v) → G w w' → (∀ o d, (l.take n)[j]? = some o → o.dst = some d → S d w' v) := fun j w w' v h hw o d ho hd => hS _ _ _ _ (h o d ho hd) hw
  intro f
  induction f with
  | zero =>
    intro listed a w hz hI h hY
    have hall : ∀ i, i < n → listed.getD i false = true := by
      intro i hi
      rw [List.count_eq_zero] at hz
      have hs := hI.size
      have hi' : i < listed.size := by rw [hs]; simp; omega
      have hm : listed[i] ∈ (listed.extract 0 n).toList := by
        rw [Array.mem_toList_iff, Array.mem_iff_getElem?]
        exact ⟨i, by rw [Array.getElem?_extract, if_pos (by omega)]; simp [hi']⟩
      rcases Bool.eq_false_or_eq_true listed[i] with h1 | h1
      · simp [Array.getD, hi', h1]
      · rw [h1] at hm; exact absurd hm hz
    have hlist : listed = Array.replicate n true ++ Array.replicate (l.length - n) false := by
      have hs := hI.size
      simp only [List.size_toArray] at hs
      apply Array.ext_getElem?
      intro k
      rw [Array.getElem?_append]
      simp only [Array.size_replicate, Array.getElem?_replicate]
      by_cases hk' : k < n
      · rw [if_pos hk', if_pos hk']
        have := hall k hk'
        have hk2 : k < listed.size := by omega
        simp [Array.getD, hk2] at this
        rw [Array.getElem?_eq_getElem hk2, this]
      · rw [if_neg hk']
        by_cases hk2 : k < l.length
        · rw [if_pos (by omega)]
          have := hI.tail k (by omega) (by simpa using hk2)
          have hk3 : k < listed.size := by omega
          simp [Array.getD, hk3] at this
          rw [Array.getElem?_eq_getElem hk3, this]
        · rw [if_neg (by omega), Array.getElem?_eq_none (by omega)]
    have hw := hend a w ⟨h.grown, h.defers, h.tmps, fun t ht => h.old t fun j hj => (by rw [ht] at hj; cases hj), fun t j hj ht => h.new t j hj (by
      obtain ⟨o', ho', _⟩ := writerOf_dst hj
      have hlt : j < (l.take n).length := (List.getElem?_eq_some_iff.1 ho').1
      rw [extract_getD _ _ _ _ (by simp at hlt; omega)]
      exact hall j (by simp at hlt; omega)) ht⟩ (fun i hi => hY i hi (hall i hi))
    have := wpAny_of_seq (P := P) (md := .any) (ops := l.toArray) (Q' := Q) (l.drop n) n listed a w (fun j => by simp [List.getElem?_drop]) (by rw [hlist, List.length_drop]; exact hq) hw
    rw [Nat.zero_add]
    rwa [List.length_drop] at this
  | succ f ih =>
    intro listed a w hz hI h hY
    have hsl := hI.size
    simp only [List.size_toArray] at hsl
    -- some operation of the head is left
    have hex : ∃ i, i < n ∧ listed.getD i true = false := by
      have hm : false ∈ (listed.extract 0 n).toList := by rw [← List.count_pos_iff]; omega
      obtain ⟨i, hi, he⟩ := List.getElem_of_mem hm
      have hi' : i < n := by simp at hi; omega
      have hi2 : i < listed.size := by omega
      refine ⟨i, hi', ?_⟩
      simp at he
      simp [Array.getD, hi2, he]
    obtain ⟨i0, hi0, hu0⟩ := hex
    have hlow : ∀ t, t ∈ Region.ready .any l.toArray listed → t < n := by
      intro t ht
      rcases Nat.lt_or_ge t n with h1 | h1
      · exact h1
      · exact absurd ht (tail_waits hk hc (by simpa using hn) hI (n - i0) i0 rfl hi0 hu0 t h1)
    have hhead : ∀ (i : Nat) (o : Oper), i < n → (l[i]? = some o ↔ (l.take n)[i]? = some o) := by
      intro i o hi
      rw [List.getElem?_take_of_lt hi]
    have hready : ∀ i, i ∈ Region.ready .any (l.take n).toArray (listed.extract 0 n) → i ∈ Region.ready .any l.toArray listed := by
      intro i hi
      obtain ⟨h1, o, ho, h2⟩ := mem_ready.1 hi
      have ho' : (l.take n)[i]? = some o := by simpa using ho
      have hin : i < n := by have := (List.getElem?_eq_some_iff.1 ho').1; simp at this; omega
      rw [extract_getD _ _ _ _ hin] at h1
      refine mem_ready.2 ⟨h1, o, by simpa using (hhead i o hin).2 ho', fun e he hb => ?_⟩
      have h3 := h2 e he hb
      have hop := regFrom_at (l.take n) 0 hB i o ho'
      rw [Nat.zero_add] at hop
      simp only [regOp, Bool.and_eq_true] at hop
      have h4 := Array.all_eq_true'.1 hop.1.1 e he
      simp [hb] at h4
      rwa [extract_getD _ _ _ _ (by omega)] at h3
    rw [show f + 1 + (l.length - n) = (f + (l.length - n)) + 1 by omega]
    refine ⟨fun hr => ?_, fun i hi => ?_⟩
    · exfalso
      have h1 : Region.ready .any (l.take n).toArray (listed.extract 0 n) = [] := by
        cases h2 : Region.ready .any (l.take n).toArray (listed.extract 0 n) with
        | nil => rfl
        | cons x r =>
          have := hready x (by rw [h2]; exact List.mem_cons_self)
          rw [hr] at this
          cases this
      have := ready_some hB h.size h1
      omega
    · have hin := hlow i hi
      obtain ⟨hf, o, ho, hall⟩ := mem_ready.1 hi
      have ho' : l[i]? = some o := by simpa using ho
      have ho2 := (hhead i o hin).1 ho'
      have hop := regFrom_at (l.take n) 0 hB i o ho2
      rw [Nat.zero_add] at hop
      simp only [regOp, Bool.and_eq_true] at hop
      have hf2 : (listed.extract 0 n).getD i true = false := by rw [extract_getD _ _ _ _ hin]; exact hf
      have hall2 : ∀ e ∈ o.after, Region.binds .any e = true → (listed.extract 0 n).getD e.on false = true := by
        intro e he hb
        have h4 := Array.all_eq_true'.1 hop.1.1 e he
        simp [hb] at h4
        rw [extract_getD _ _ _ _ (by omega)]
        exact hall e he hb
      obtain ⟨hlt, hff⟩ := getD_false_true hf2
      have hcount := count_set hlt hff
      obtain ⟨gd, hgd, hgo⟩ := guards_at hF i o ho2
      have hst := StepsW.at_ hstep i o gd ho2 hgd
      have hlook : ∀ t ∈ tmpsOf (l.take n) o, S t w (a.tmps.getD t undef) := by
        intro t ht2
        cases hwr : writerOf (l.take n) t with
        | none =>
          rw [h.old t fun j hj => by rw [hwr] at hj; cases hj]
          exact h0 t w hwr h.grown ⟨o, List.mem_of_getElem? ho2, ht2⟩
        | some j =>
          have h2 := List.all_eq_true.1 hL i (by rw [List.mem_range]; exact (List.getElem?_eq_some_iff.1 ho2).1)
          rw [ho2] at h2
          dsimp only at h2
          have h3 := List.all_eq_true.1 h2 t ht2
          rw [hwr] at h3
          have h3 : waitsOn o j = true := h3
          simp only [waitsOn, Array.any_eq_true', Bool.and_eq_true, beq_iff_eq] at h3
          obtain ⟨e, he, hb, hon⟩ := h3
          have hl := hall2 e he hb
          rw [hon] at hl
          obtain ⟨oj, hoj, hd⟩ := writerOf_dst hwr
          exact h.new t j hwr hl (hsz t j hwr) oj t hoj hd
      have hnext : ∀ v w', (∀ d, o.dst = some d → S d w' v) → G w w' → Ψ i w' → wpAny P .any l.toArray Q (f + (l.length - n)) (listed.setIfInBounds i true) (a.put o.dst v) w' := by
        intro v w' hv hww hpw
        refine ih _ _ _ ?_ (hI.set hi hin) ?_ ?_
        · rw [extract_set]; omega
        · rw [extract_set]
          exact h.step hB hG hS' ho2 hf2 hall2 v w' (fun o' d ho' hd => by
            have : o' = o := Option.some.inj (ho'.symm.trans ho2)
            subst this
            exact hv d hd) hww
        · intro k hk hl
          by_cases e : i = k
          · subst e; exact hpw
          · rw [getD_set_ne false e] at hl
            exact hΨ k w w' (hY k hk hl) hww
      have hst : StepW P w0 G S Q Ψ i gd o := by rw [Nat.zero_add] at hst; exact hst
      have H := hst a w h.grown (fun t ht => hlook t (by unfold tmpsOf; exact List.mem_append_left _ ht)) _ hnext
      unfold wpOp
      simp only [ho]
      cases hgg : o.guard with
      | none =>
        rw [hgg] at hgo
        have : gd = none := hgo
        subst this
        rw [if_pos (by simp [Region.wanted, hgg])]
        exact .inl H
      | some gb =>
        obtain ⟨j, b⟩ := gb
        rw [hgg] at hgo
        obtain ⟨t, og, hj, hgt, hts, rfl⟩ := hgo
        have hts' : t < a.tmps.size := by rw [h.tmps]; exact hts
        have hlj : l[j]? = some og := by
          have hjn : j < n := by have := (List.getElem?_eq_some_iff.1 hj).1; simp at this; omega
          exact (hhead j og hjn).2 hj
        have hS1 : S t w (a.tmps.getD t undef) := hlook t (by
          unfold tmpsOf
          refine List.mem_append_right _ ?_
          rw [hgg]
          simp [hj, hgt])
        have hyl : yielded l.toArray a.tmps j = match a.tmps.getD t undef with | .bool x => some x | _ => none := by
          have e1 : l.toArray[j]? = some og := by simpa using hlj
          unfold yielded
          rw [e1]
          simp only [Option.bind_some, hgt]
          have e2 : a.tmps[t]? = some (a.tmps.getD t undef) := by simp [Array.getD, hts']
          rw [e2]
          cases a.tmps.getD t undef <;> rfl
        have H := H hS1
        by_cases hv : a.tmps.getD t undef = .bool b
        · rw [if_pos (by simp [Region.wanted, hgg, hyl, hv])]
          exact .inl (H.1 hv)
        · rw [if_neg]
          · exact H.2 hv
          · intro hw
            refine hv ?_
            simp only [Region.wanted, hgg, hyl, beq_iff_eq] at hw
            split at hw
            · rename_i x hx
              rw [hx]
              have := Option.some.inj hw
              rw [this]
            · cases hw

theorem wp_region_guard {id : Nat} {l : List Oper} {a0 : Act} {w0 : World} {Q : Exit → Act → World → Prop} (hm : P.follows .mixedOrders = true) (n : Nat) (old : List Tmp) (gl : List (Option (Tmp × Bool))) (hB : guardB l n a0.tmps.size old gl = true)
    (G : World → World → Prop) (hG : ∀ a b c, G a b → G b c → G a c) (hG0 : G w0 { w0 with drawn := w0.drawn + 1 }) (S : Tmp → World → Value → Prop) (hS : ∀ t w w' v, S t w v → G w w' → S t w' v)
    (Ψ : Nat → World → Prop) (hΨ : ∀ i w w', Ψ i w → G w w' → Ψ i w') (h0 : ∀ t ∈ old, ∀ w, G w0 w → S t w (a0.tmps.getD t undef)) (hstep : StepsW P w0 G S Q Ψ 0 gl (l.take n))
    (hend : ∀ a w, G w0 w → a.defers = a0.defers → a.tmps.size = a0.tmps.size → (∀ t, writerOf (l.take n) t = none → a.tmps.getD t undef = a0.tmps.getD t undef) → (∀ t j, writerOf (l.take n) t = some j → S t w (a.tmps.getD t undef)) → (∀ i, i < n → Ψ i w) → wpList P l.toArray Q (l.drop n) a w) : (Code.region id l.toArray true).wp P Q a0 w0 := by
  simp only [guardB, Bool.and_eq_true, decide_eq_true_eq] at hB
  obtain ⟨⟨⟨⟨⟨⟨⟨⟨hR, hL⟩, hD⟩, hF⟩, hO⟩, hn⟩, hk⟩, hc⟩, hq⟩ := hB
  have hsz : ∀ t j, writerOf (l.take n) t = some j → t < a0.tmps.size := by
    intro t j h
    obtain ⟨o, ho, hd⟩ := writerOf_dst h
    have := List.all_eq_true.1 hD o (List.mem_of_getElem? ho)
    rw [hd] at this
    simpa using this
  refine wp_region_any hm ?_
  have H := wpAny_of_guard (P := P) hn hR hL gl hF hk hc hq hG hS (Q := Q) hΨ ?_ hstep ?_ hsz n (Array.replicate l.toArray.size false) a0 { w0 with drawn := w0.drawn + 1 } ?_ ?_ ?_ ?_
  · rw [show n + (l.length - n) = l.toArray.size by (simp; omega)] at H
    exact H
  · rintro t w hw hg ⟨o, ho, ht⟩
    refine h0 t ?_ w hg
    have := List.all_eq_true.1 (List.all_eq_true.1 hO o ho) t ht
    rw [hw] at this
    exact List.mem_of_elem_eq_true (by simpa using this)
  · intro a w h hpsi
    refine hend a w h.grown h.defers h.size h.old (fun t j hj => ?_) hpsi
    obtain ⟨o, ho, hd⟩ := writerOf_dst hj
    exact h.new t j hj (hsz t j hj) o t ho hd
  · (simp <;> omega)
  · exact ⟨by simp, fun j oj _ hl => (by rw [getD_replicate_false] at hl; cases hl), fun t _ ht => getD_in (by simpa using ht) (getD_replicate_false _ _)⟩
  · refine ⟨by simp <;> omega, hG0, rfl, rfl, fun _ _ => rfl, ?_, ?_⟩
    · intro t j hj hl _
      have hjn : j < n := by
        obtain ⟨o', ho', _⟩ := writerOf_dst hj
        have hlt : j < (l.take n).length := (List.getElem?_eq_some_iff.1 ho').1
        simp at hlt; omega
      rw [extract_getD _ _ _ _ hjn, getD_replicate_false] at hl
      cases hl
    · intro k o hk' hl
      have hjn : k < n := by
        have hlt : k < (l.take n).length := (List.getElem?_eq_some_iff.1 hk').1
        simp at hlt; omega
      rw [extract_getD _ _ _ _ hjn, getD_replicate_false] at hl
      cases hl
  · intro i _ hl
    rw [getD_replicate_false] at hl
    cases hl
end
end Go.Proofs.YtljbclkbmjjmdaaGreatDoor
