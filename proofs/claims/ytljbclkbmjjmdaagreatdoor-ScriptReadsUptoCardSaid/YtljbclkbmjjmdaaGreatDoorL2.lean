/- A plan that is printed is read back; what is read cs a plan is what is printed: the plain part; no program in sight. -/
import Derived.Test.YtljbclkbmjjmdaaGreatDoorL
namespace Go.Proofs.YtljbclkbmjjmdaaGreatDoor
open Go.RowKit Go.Lib
theorem evL_no {e : Ev} (h : lettersB e.key = true) (c : UInt8) (h1 : c.toNat < 45) : c ∉ evL e := by
  intro hc
  rw [evL_shape] at hc
  have hi : ∀ v, c ∉ itoa v := fun v => itoa_no v c (by omega) (by omega)
  rcases List.mem_append.1 hc with hc | hc
  · have := letters_mem h hc
    omega
  · rcases List.mem_cons.1 hc with rfl | hc
    · revert h1; decide
    · rcases List.mem_append.1 hc with hc | hc
      · exact hi _ hc
      · rcases List.mem_cons.1 hc with rfl | hc
        · revert h1; decide
        · exact hi _ hc
/-- A source that may be. -/
structure SrcOk (es : List Ev) : Prop where
  len : es.length ≤ 200
  all : ∀ e ∈ es, e.wf ∧ lettersB e.key = true ∧ eventB e = true
structure ActOk (a : Ac) : Prop where
  ok : actB a = true
  wf : a.wf
theorem src_words {es : List Ev} (h : SrcOk es) : (∀ a ∈ srcWord :: es.map evL, (10 : UInt8) ∉ a) ∧ (∀ a ∈ srcWord :: es.map evL, (32 : UInt8) ∉ a) := by
  refine ⟨fun a ha => ?_, fun a ha => ?_⟩
  all_goals
    rcases List.mem_cons.1 ha with rfl | ha
    · decide
    · obtain ⟨e, he, rfl⟩ := List.mem_map.1 ha
      exact evL_no (h.all e he).2.1 _ (by decide)
theorem src_is {es : List Ev} (h : SrcOk es) : SrcIs (es.map evL) es :=
  ⟨by rw [List.length_map]; exact h.len, all2_map fun e he => ⟨rfl, h.all e he⟩⟩
theorem actB_out {a : Ac} (h : actB a = true) : (0 ≤ a.what ∧ a.what ≤ 9) ∧ ((needs a.what = 1 ∧ 0 ≤ a.which ∧ a.which ≤ 1000000 ∧ a.who = 0) ∨ (needs a.what = 2 ∧ 0 ≤ a.who ∧ a.who ≤ 1000000 ∧ a.which = 0) ∨ (needs a.what = 0 ∧ a.who = 0 ∧ a.which = 0)) := by
  unfold actB at h
  split at h
  · rename_i h0
    refine ⟨h0, ?_⟩
    split at h
    · rename_i h1
      simp only [decide_eq_true_eq] at h
      exact .inl ⟨h1, h⟩
    · split at h
      · rename_i h1 h2
        simp only [decide_eq_true_eq] at h
        exact .inr (.inl ⟨h2, h⟩)
      · rename_i h1 h2
        simp only [decide_eq_true_eq] at h
        refine .inr (.inr ⟨?_, h⟩)
        rcases kinds a.what with k | k
        · rcases k.2.2.2 with k | k | k
          · exact k
          · exact absurd k h1
          · exact absurd k h2
        · exact absurd h0 k.2
  · cases h
theorem act_line {a : Ac} (h : ActOk a) (r : List UInt8) : ∃ ws, Cut10 (actL a ++ r) (joinL ws) r ∧ wordsL 32 (joinL ws) = ws ∧ ActIs ws a ∧ (∀ p, ¬ SrcLine ws p) := by
  obtain ⟨h0, hk⟩ := actB_out h.ok
  obtain ⟨w1, w2, w3⟩ := h.wf
  have hs : ∀ xs p, ¬ SrcLine (wordL a.what :: xs) p := fun xs p ⟨_, ⟨ys, e⟩, _⟩ => wordL_src (List.cons.inj e).1
  rcases hk with ⟨n, b1, b2, b3⟩ | ⟨n, b1, b2, b3⟩ | ⟨n, b1, b2⟩
  · refine ⟨[wordL a.what, itoa a.which], ?_, words_joinL (by simp) (lnB2 _ _ (wordL_no _).2 (itoa_no32 _)), ⟨_, rfl, h0.1, h0.2, .inr (.inl ⟨n, ⟨_, rfl, w3, rfl, b1⟩, b2, b3⟩)⟩, hs _⟩
    rw [show actL a = lineL [wordL a.what, itoa a.which] by unfold actL; rw [if_neg (by omega), if_pos n]]
    exact cut_line (lnA2 _ _ (wordL_no _).1 (itoa_no10 _)) _
  · refine ⟨[wordL a.what, itoa a.who], ?_, words_joinL (by simp) (lnB2 _ _ (wordL_no _).2 (itoa_no32 _)), ⟨_, rfl, h0.1, h0.2, .inr (.inr ⟨n, ⟨_, rfl, w2, rfl, b1⟩, b2, b3⟩)⟩, hs _⟩
    rw [show actL a = lineL [wordL a.what, itoa a.who] by unfold actL; rw [if_neg (by omega), if_neg (by omega)]]
    exact cut_line (lnA2 _ _ (wordL_no _).1 (itoa_no10 _)) _
  · have h1 : ∀ x ∈ [wordL a.what], (10 : UInt8) ∉ x := fun x hx => by simp at hx; subst hx; exact (wordL_no _).1
    have h2 : ∀ x ∈ [wordL a.what], (32 : UInt8) ∉ x := fun x hx => by simp at hx; subst hx; exact (wordL_no _).2
    refine ⟨[wordL a.what], ?_, words_joinL (by simp) h2, ⟨_, rfl, h0.1, h0.2, .inl ⟨n, rfl, b2, b1⟩⟩, hs _⟩
    rw [show actL a = lineL [wordL a.what] by unfold actL; rw [if_pos n]]
    exact cut_line h1 _
theorem acts_run : ∀ (cs : List Ac) (n : Int) (p : Pl), p.inputs ≠ [] → (∀ a ∈ cs, ActOk a) → p.acts.length + cs.length ≤ 400 → ScrRun n (cs.flatMap actL) p { p with acts := p.acts ++ cs } 0 0
  | [], n, p, hi, _, _ => by
    rw [List.append_nil]
    exact .fin n p hi
  | a :: cs, n, p, hi, h, hl => by
    rw [List.flatMap_cons]
    obtain ⟨ws, hc, hw, ha, hs⟩ := act_line (h a (by simp)) (cs.flatMap actL)
    simp only [List.length_cons] at hl
    have := acts_run cs (n + 1) { p with acts := p.acts ++ [a] } hi (fun x hx => h x (by simp [hx])) (by simp; omega)
    simp only [List.append_assoc, List.singleton_append] at this
    exact .act n _ _ _ p _ a 0 0 hc (by rw [hw]; exact hs p) (by rw [hw]; exact ha) hi (by omega) this
theorem srcs_run (x : Pl) (rest : List UInt8) : ∀ (ss : List (List Ev)) (n : Int) (p : Pl), p.acts = [] → (∀ s ∈ ss, SrcOk s) → p.inputs.length + ss.length ≤ 4 →
    ScrRun (n + ss.length) rest { p with inputs := p.inputs ++ ss } x 0 0 → ScrRun n (ss.flatMap sourceL ++ rest) p x 0 0
  | [], n, p, _, _, _, hr => by simpa using hr
  | s :: ss, n, p, ha, h, hl, hr => by
    rw [List.flatMap_cons, List.append_assoc]
    have ho := h s (by simp)
    have hw : wordsL 32 (joinL (srcWord :: s.map evL)) = srcWord :: s.map evL := words_joinL (by simp) (src_words ho).2
    simp only [List.length_cons] at hl hr
    refine .src n _ _ _ p x (s.map evL) s 0 0 (cut_line (src_words ho).1 _) hw ⟨ha, ⟨_, hw⟩, by omega⟩ (src_is ho) ?_
    refine srcs_run x rest ss (n + 1) _ ha (fun y hy => h y (by simp [hy])) (by simp; omega) ?_
    simp only [List.append_assoc, List.singleton_append]
    rw [show n + 1 + (ss.length : Int) = n + ((ss.length + 1 : Nat) : Int) by omega]
    exact hr
/-- What may be of a plan. -/
structure PlOk (p : Pl) : Prop where
  jobW : p.job.wf
  job : jobB p.job = true
  workers : 1 ≤ p.workers ∧ p.workers ≤ 8
  inputs : 1 ≤ p.inputs.length ∧ p.inputs.length ≤ 4
  srcs : ∀ s ∈ p.inputs, SrcOk s
  acts : ∀ a ∈ p.acts, ActOk a
  many : p.acts.length ≤ 400
theorem planB_ok {p : Pl} (h : planB p = true) (hw : PlWf p) : PlOk p := by
  simp only [planB, inputsB, inputB, Bool.and_eq_true, decide_eq_true_eq, List.all_eq_true] at h
  obtain ⟨⟨⟨⟨⟨a, b, c⟩, d⟩, e⟩, f⟩, g⟩ := h
  exact ⟨hw.job, a, d, b, fun s hs => ⟨(c s hs).1, fun e he => ⟨hw.inputs s hs e he, f s hs e he, (c s hs).2 e he⟩⟩, fun a ha => ⟨g a ha, hw.acts a ha⟩, e⟩
theorem ok_planB {p : Pl} (h : PlOk p) : planB p = true ∧ PlWf p := by
  have hw := h.workers
  refine ⟨?_, h.jobW, by rw [Wf.i64]; omega, fun s hs e he => ((h.srcs s hs).all e he).1, fun a ha => (h.acts a ha).wf⟩
  simp only [planB, inputsB, inputB, Bool.and_eq_true, decide_eq_true_eq, List.all_eq_true]
  exact ⟨⟨⟨⟨⟨h.job, h.inputs, fun s hs => ⟨(h.srcs s hs).len, fun e he => ((h.srcs s hs).all e he).2.2⟩⟩, hw⟩, h.many⟩, fun s hs e he => ((h.srcs s hs).all e he).2.1⟩, fun a ha => (h.acts a ha).ok⟩
theorem heads_lines : ∀ (ls : List (List (List UInt8))) (r : List UInt8), (∀ l ∈ ls, ∀ a ∈ l, (10 : UInt8) ∉ a) → Heads ls.length (ls.flatMap lineL ++ r) (ls.flatMap lineL) r
  | [], r, _ => .stop r
  | l :: ls, r, h => by
    rw [List.flatMap_cons, List.append_assoc]
    have e : lineL l ++ ls.flatMap lineL = joinL l ++ 10 :: ls.flatMap lineL := by simp [lineL]
    have hr := heads_lines ls r (fun x hx => h x (by simp [hx]))
    have := Heads.line ls.length _ (joinL l) _ _ r (cut_line (h l (by simp)) (ls.flatMap lineL ++ r)) hr
    rw [e]
    exact this
theorem job_heads (j : Jb) (r : List UInt8) : Heads 6 (jobL j ++ r) (jobL j) r := by
  rw [jobL_lines]
  refine heads_lines (jobWs j) r fun l hl => ?_
  have g10 : ∀ n, (10 : UInt8) ∉ itoa n := itoa_no10
  simp only [jobWs, List.mem_cons, List.mem_nil_iff, or_false] at hl
  rcases hl with rfl | rfl | rfl | rfl | rfl | rfl
  · exact lnA2 _ _ (by decide) (g10 _)
  · exact lnA3 _ _ _ (by decide) (g10 _) (g10 _)
  · exact lnA2 _ _ (by decide) (foldL_no _).1
  · exact lnA3 _ _ _ (by decide) (g10 _) (g10 _)
  · exact lnA2 _ _ (by decide) (g10 _)
  · exact lnA2 _ _ (by decide) (g10 _)
/-- A plan that is printed is read back. -/
theorem plan_back {p : Pl} (h : PlOk p) : PlanRun (planL p) p 0 0 := by
  have hw := h.workers
  have e : planL p = jobL p.job ++ (lineL [workersWord, itoa p.workers] ++ (p.inputs.flatMap sourceL ++ p.acts.flatMap actL)) := by
    unfold planL
    simp only [List.append_assoc]
  rw [e]
  refine .go _ _ _ _ _ p.job 0 p.workers p 0 0 (job_heads _ _) (job_run _ h.jobW h.job) (cut_line (lnA2 _ _ (by decide) (itoa_no10 _)) _) ⟨itoa p.workers, words_joinL (by simp) (lnB2 _ _ (by decide) (itoa_no32 _)), ⟨by rw [Wf.i64]; omega, rfl, by omega⟩, hw⟩ ?_
  have hi := h.inputs
  refine srcs_run p _ p.inputs 7 ⟨p.job, [], p.workers, []⟩ rfl h.srcs (by simp; omega) ?_
  exact acts_run p.acts _ ⟨p.job, [] ++ p.inputs, p.workers, []⟩ (by
    intro h'
    simp only [List.nil_append] at h'
    rw [h'] at hi
    simp at hi) h.acts (by simp; exact h.many)
theorem act_once {l : List UInt8} {c : Ac} (h : ActIs (wordsL 32 l) c) : ActOk c ∧ l ++ [10] = actL c := by
  obtain ⟨xs, e, h0, h9, h⟩ := h
  have el := words_eq e
  have hwW : Wf .i64 c.what := by rw [Wf.i64]; omega
  have hz : Wf .i64 0 := by rw [Wf.i64]; omega
  rcases h with ⟨n, rfl, b1, b2⟩ | ⟨n, ⟨x, rfl, hx⟩, b1, b2⟩ | ⟨n, ⟨x, rfl, hx⟩, b1, b2⟩
  · refine ⟨⟨?_, hwW, by rw [b2]; exact hz, by rw [b1]; exact hz⟩, ?_⟩
    · unfold actB; rw [if_pos ⟨h0, h9⟩, if_neg (by omega), if_neg (by omega)]; simp [b1, b2]
    · unfold actL; rw [if_pos n, el]; simp [lineL, joinL, sepL, joinC]
  · have := hx.2.2
    refine ⟨⟨?_, hwW, by rw [b2]; exact hz, hx.1⟩, ?_⟩
    · unfold actB; rw [if_pos ⟨h0, h9⟩, if_pos n]; simp; omega
    · unfold actL; rw [if_neg (by omega), if_pos n, el, hx.2.1]; simp [lineL, joinL, sepL, joinC]
  · have := hx.2.2
    refine ⟨⟨?_, hwW, hx.1, by rw [b2]; exact hz⟩, ?_⟩
    · unfold actB; rw [if_pos ⟨h0, h9⟩, if_neg (by omega), if_pos n]; simp; omega
    · unfold actL; rw [if_neg (by omega), if_neg (by omega), el, hx.2.1]; simp [lineL, joinL, sepL, joinC]
theorem all2_ev : ∀ {xs : List (List UInt8)} {es : List Ev}, All2 EvL xs es → xs = es.map evL ∧ ∀ e ∈ es, e.wf ∧ lettersB e.key = true ∧ eventB e = true
  | [], [], _ => ⟨rfl, fun e he => by simp at he⟩
  | x :: xs, e :: es, h => by
    obtain ⟨h1, h2⟩ := all2_ev h.2
    have hx : x = evL e := h.1.1
    refine ⟨by rw [hx, h1]; rfl, fun y hy => ?_⟩
    rcases List.mem_cons.1 hy with rfl | hy
    · exact h.1.2
    · exact h2 y hy
  | [], _ :: _, h => h.elim
  | _ :: _, [], h => h.elim
theorem src_once {l : List UInt8} {xs : List (List UInt8)} {es : List Ev} (e : wordsL 32 l = srcWord :: xs) (h : SrcIs xs es) : SrcOk es ∧ l ++ [10] = sourceL es := by
  obtain ⟨h1, h2⟩ := all2_ev h.2
  refine ⟨⟨by rw [← h.2.len]; exact h.1, h2⟩, ?_⟩
  rw [words_eq e, h1]
  rfl
/-- What is read of the lines behind the workers' is what is printed. -/
theorem scr_once {n : Int} {l : List UInt8} {p x : Pl} {e m : Int} (h : ScrRun n l p x e m) : e = 0 → p.inputs.length ≤ 4 → p.acts.length ≤ 400 → ∃ ss cs, x = { p with inputs := p.inputs ++ ss, acts := p.acts ++ cs } ∧ l = ss.flatMap sourceL ++ cs.flatMap actL ∧ (∀ s ∈ ss, SrcOk s) ∧ (∀ a ∈ cs, ActOk a) ∧ (p.acts ≠ [] → ss = []) ∧ x.inputs ≠ [] ∧ x.inputs.length ≤ 4 ∧ x.acts.length ≤ 400 := by
  induction h with
  | fin n p h => intro _ h1 h2; exact ⟨[], [], by simp, by simp, by simp, by simp, fun _ => rfl, h, h1, h2⟩
  | none => intro h; cases h
  | open_ => intro h; cases h
  | srcBad => intro h; cases h
  | actBad => intro h; cases h
  | src n l a b p x xs es e m hc hw hs h hr ih =>
    intro he h1 h2
    obtain ⟨ss, cs, e1, e2, e3, e4, e5, e6, e7, e8⟩ := ih he (by have := hs.2.2; simp; omega) h2
    obtain ⟨o1, o2⟩ := src_once hw h
    refine ⟨es :: ss, cs, by rw [e1]; simp, ?_, ?_, e4, fun h' => absurd hs.1 h', e6, e7, e8⟩
    · rw [hc.1, e2, show a ++ 10 :: (ss.flatMap sourceL ++ cs.flatMap actL) = (a ++ [10]) ++ (ss.flatMap sourceL ++ cs.flatMap actL) by simp, o2]
      simp
    · intro s hs'
      rcases List.mem_cons.1 hs' with rfl | hs'
      · exact o1
      · exact e3 s hs'
  | act n l a b p x c e m hc hs h hi ha hr ih =>
    intro he h1 h2
    obtain ⟨ss, cs, e1, e2, e3, e4, e5, e6, e7, e8⟩ := ih he h1 (by simp; omega)
    obtain ⟨o1, o2⟩ := act_once h
    obtain rfl := e5 (by simp)
    refine ⟨[], c :: cs, by rw [e1]; simp, ?_, by simp, ?_, fun _ => rfl, e6, e7, e8⟩
    · rw [hc.1, e2, show a ++ 10 :: (([] : List (List Ev)).flatMap sourceL ++ cs.flatMap actL) = (a ++ [10]) ++ cs.flatMap actL by simp, o2]
      simp
    · intro s hs'
      rcases List.mem_cons.1 hs' with rfl | hs'
      · exact o1
      · exact e4 s hs'
theorem scr_zero {n : Int} {l : List UInt8} {p x : Pl} {e m : Int} (h : ScrRun n l p x e m) : e = 0 → m = 0 := by
  induction h with
  | fin => intro _; rfl
  | none => intro h; cases h
  | open_ => intro h; cases h
  | srcBad => intro h; cases h
  | actBad => intro h; cases h
  | src _ _ _ _ _ _ _ _ _ _ _ _ _ _ _ ih => exact ih
  | act _ _ _ _ _ _ _ _ _ _ _ _ _ _ _ ih => exact ih
/-- What is read cs a plan is what is printed. -/
theorem plan_once {l : List UInt8} {p : Pl} {k : Int} (h : PlanRun l p 0 k) : PlOk p ∧ l = planL p ∧ k = 0 := by
  cases h with
  | job _ _ _ _ _ _ _ he => exact absurd rfl he
  | go h t a b j n m x e k hh hj hc hw hr =>
    obtain ⟨ss, cs, e1, e2, e3, e4, e5, e6, e7, e8⟩ := scr_once hr rfl (by simp) (by simp)
    obtain ⟨x, ex, hn, w1, w8⟩ := hw
    obtain ⟨j1, j2, j3, _⟩ := job_once hj
    subst e1
    refine ⟨⟨j3, j2, ⟨w1, w8⟩, ⟨?_, e7⟩, by simpa using e3, by simpa using e4, e8⟩, ?_, ?_⟩
    · rcases Nat.eq_zero_or_pos (([] : List (List Ev)) ++ ss).length with h' | h'
      · exact absurd (List.length_eq_zero_iff.1 h') e6
      · exact h'
    · rw [hh.app, j1, hc.1, words_eq ex, hn.2.1, e2]
      simp [planL, lineL, joinL, sepL, joinC]
    · exact scr_zero hr rfl
end Go.Proofs.YtljbclkbmjjmdaaGreatDoor
