/- What is printed is read back, and what is read is what is printed: the plain part; no program in sight. -/
import Derived.Test.YtljbclkbmjjmdaaGreatDoorK
namespace Go.Proofs.YtljbclkbmjjmdaaGreatDoor
open Go.RowKit Go.Lib
theorem itoa_no32 (v : Int) : (32 : UInt8) ∉ itoa v := itoa_no v 32 (by decide) (by decide)
theorem itoa_no10 (v : Int) : (10 : UInt8) ∉ itoa v := itoa_no v 10 (by decide) (by decide)
theorem joinL_no {c : UInt8} (hc : c ≠ 32) {ws : List (List UInt8)} (h : ∀ a ∈ ws, c ∉ a) : c ∉ joinL ws := by
  intro hm
  have hm := List.mem_of_mem_drop hm
  unfold sepL at hm
  rw [List.mem_flatMap] at hm
  obtain ⟨a, ha, hm⟩ := hm
  rcases List.mem_cons.1 hm with h' | h'
  · exact hc h'
  · exact h a ha h'
theorem words_joinL {ws : List (List UInt8)} (h : ws ≠ []) (hn : ∀ a ∈ ws, (32 : UInt8) ∉ a) : wordsL 32 (joinL ws) = ws := wordsL_join h hn
theorem joinL_words (l : List UInt8) : joinL (wordsL 32 l) = l := (words_back 32 l).1
theorem cut_line {ws : List (List UInt8)} (h : ∀ a ∈ ws, (10 : UInt8) ∉ a) (r : List UInt8) : Cut10 (lineL ws ++ r) (joinL ws) r := ⟨by simp [lineL], joinL_no (by decide) h⟩
theorem foldL_no (k : Int) : (10 : UInt8) ∉ foldL k ∧ (32 : UInt8) ∉ foldL k := by
  unfold foldL
  repeat' split
  all_goals decide
theorem wordL_no (k : Int) : (10 : UInt8) ∉ wordL k ∧ (32 : UInt8) ∉ wordL k := by
  unfold wordL
  repeat' split
  all_goals decide
theorem wordL_src {k : Int} : wordL k ≠ srcWord := by
  unfold wordL
  repeat' split
  all_goals decide
/-- The job's six lines. -/
def jobWs (j : Jb) : List (List (List UInt8)) :=
  [[groupsW, itoa j.groups], [windowW, itoa j.size, itoa j.slide], [foldW, foldL j.fold], [loopW, itoa j.limit, itoa j.fuel], [delayW, itoa j.delay], [idleW, itoa j.idle]]
theorem jobL_lines (j : Jb) : jobL j = (jobWs j).flatMap lineL := by
  simp [jobL, jobWs, lineL, joinL, sepL, groupsW, windowW, foldW, loopW, delayW, idleW]
theorem lnA2 (w x : List UInt8) (h1 : (10 : UInt8) ∉ w) (h2 : (10 : UInt8) ∉ x) : ∀ a ∈ [w, x], (10 : UInt8) ∉ a := by
  intro a ha
  simp at ha
  rcases ha with rfl | rfl
  · exact h1
  · exact h2
theorem lnA3 (w x y : List UInt8) (h1 : (10 : UInt8) ∉ w) (h2 : (10 : UInt8) ∉ x) (h3 : (10 : UInt8) ∉ y) : ∀ a ∈ [w, x, y], (10 : UInt8) ∉ a := by
  intro a ha
  simp at ha
  rcases ha with rfl | rfl | rfl
  · exact h1
  · exact h2
  · exact h3
theorem lnB2 (w x : List UInt8) (h1 : (32 : UInt8) ∉ w) (h2 : (32 : UInt8) ∉ x) : ∀ a ∈ [w, x], (32 : UInt8) ∉ a := by
  intro a ha
  simp at ha
  rcases ha with rfl | rfl
  · exact h1
  · exact h2
theorem lnB3 (w x y : List UInt8) (h1 : (32 : UInt8) ∉ w) (h2 : (32 : UInt8) ∉ x) (h3 : (32 : UInt8) ∉ y) : ∀ a ∈ [w, x, y], (32 : UInt8) ∉ a := by
  intro a ha
  simp at ha
  rcases ha with rfl | rfl | rfl
  · exact h1
  · exact h2
  · exact h3
theorem jobB_all {j : Jb} (h : jobB j = true) : 1 ≤ j.groups ∧ j.groups ≤ 32 ∧ 1 ≤ j.slide ∧ j.slide ≤ j.size ∧ j.size ≤ 1048576 ∧ foldB j.fold = true ∧ 0 ≤ j.fuel ∧ j.fuel ≤ 40 ∧ 0 ≤ j.limit ∧ 0 ≤ j.delay ∧ j.delay ≤ 1099511627776 ∧ 0 ≤ j.idle ∧ j.idle ≤ 1048576 := by
  simp only [jobB, winB, Bool.and_eq_true, decide_eq_true_eq] at h
  obtain ⟨⟨⟨⟨a, b⟩, c, d, e, _⟩, f⟩, g, k, l, m, n, o, p⟩ := h
  exact ⟨a, b, c, d, e, f, g, k, l, m, n, o, p⟩
theorem smallI_id {n : Int} (h : n ≤ 1073741824) : smallI n = n := by unfold smallI; omega
theorem job_run (j : Jb) (hj : j.wf) (h : jobB j = true) : JobRun 1 (jobL j) zeroJ j 0 0 := by
  obtain ⟨b1, b2, b3, b4, b5, b6, b7, b8, b9, b10, b11, b12, b13⟩ := jobB_all h
  obtain ⟨w1, w2, w3, w4, w5, w6, w7, w8⟩ := hj
  have g10 : ∀ n, (10 : UInt8) ∉ itoa n := itoa_no10
  have g32 : ∀ n, (32 : UInt8) ∉ itoa n := itoa_no32
  rw [jobL_lines]
  unfold jobWs
  simp only [List.flatMap_cons, List.flatMap_nil]
  refine .step 1 _ _ _ _ { zeroJ with groups := j.groups } _ _ _ (by decide) (by decide) (cut_line (lnA2 _ _ (by decide) (g10 _)) _) ⟨[itoa j.groups], words_joinL (by simp) (lnB2 _ _ (by decide) (g32 _)), ?_⟩ ?_
  · simp only [LineP, if_true]
    exact ⟨_, j.groups, rfl, ⟨w1, rfl, by omega⟩, by rw [smallI_id (by omega)]⟩
  refine .step (1 + 1) _ _ _ _ { zeroJ with groups := j.groups, size := j.size, slide := j.slide } _ _ _ (by decide) (by decide) (cut_line (lnA3 _ _ _ (by decide) (g10 _) (g10 _)) _) ⟨[itoa j.size, itoa j.slide], words_joinL (by simp) (lnB3 _ _ _ (by decide) (g32 _) (g32 _)), ?_⟩ ?_
  · rw [show (1 + 1 : Int) = 2 from rfl]; simp only [LineP]; exact ⟨_, _, j.size, j.slide, rfl, ⟨w2, rfl, by omega⟩, ⟨w3, rfl, by omega⟩, rfl⟩
  refine .step (1 + 1 + 1) _ _ _ _ { zeroJ with groups := j.groups, size := j.size, slide := j.slide, fold := j.fold } _ _ _ (by decide) (by decide) (cut_line (lnA2 _ _ (by decide) (foldL_no _).1) _) ⟨[foldL j.fold], words_joinL (by simp) (lnB2 _ _ (by decide) (foldL_no _).2), ?_⟩ ?_
  · rw [show (1 + 1 + 1 : Int) = 3 from rfl]; simp only [LineP]; exact ⟨_, j.fold, rfl, b6, rfl, rfl⟩
  refine .step (1 + 1 + 1 + 1) _ _ _ _ { zeroJ with groups := j.groups, size := j.size, slide := j.slide, fold := j.fold, limit := j.limit, fuel := j.fuel } _ _ _ (by decide) (by decide) (cut_line (lnA3 _ _ _ (by decide) (g10 _) (g10 _)) _) ⟨[itoa j.limit, itoa j.fuel], words_joinL (by simp) (lnB3 _ _ _ (by decide) (g32 _) (g32 _)), ?_⟩ ?_
  · rw [show (1 + 1 + 1 + 1 : Int) = 4 from rfl]; simp only [LineP]; exact ⟨_, _, j.limit, j.fuel, rfl, ⟨w6, rfl, by omega⟩, ⟨w5, rfl, by omega⟩, by rw [smallI_id (by omega)]⟩
  refine .step (1 + 1 + 1 + 1 + 1) _ _ _ _ { zeroJ with groups := j.groups, size := j.size, slide := j.slide, fold := j.fold, limit := j.limit, fuel := j.fuel, delay := j.delay } _ _ _ (by decide) (by decide) (cut_line (lnA2 _ _ (by decide) (g10 _)) _) ⟨[itoa j.delay], words_joinL (by simp) (lnB2 _ _ (by decide) (g32 _)), ?_⟩ ?_
  · rw [show (1 + 1 + 1 + 1 + 1 : Int) = 5 from rfl]; simp only [LineP]; exact ⟨_, j.delay, rfl, ⟨w7, rfl, by omega⟩, rfl⟩
  refine .step (1 + 1 + 1 + 1 + 1 + 1) _ _ _ _ j _ _ _ (by decide) (by decide) (cut_line (lnA2 _ _ (by decide) (g10 _)) _) ⟨[itoa j.idle], words_joinL (by simp) (lnB2 _ _ (by decide) (g32 _)), ?_⟩ ?_
  · rw [show (1 + 1 + 1 + 1 + 1 + 1 : Int) = 6 from rfl]; simp only [LineP]; exact ⟨_, j.idle, rfl, ⟨w8, rfl, by omega⟩, by rw [smallI_id (by omega)]⟩
  exact .done j h
/-- What is read as a job was printed. -/
theorem job_once {l : List UInt8} {x : Jb} {n : Int} (h : JobRun 1 l zeroJ x 0 n) : l = jobL x ∧ jobB x = true ∧ x.wf ∧ n = 0 := by
  cases h with
  | step _ _ a1 r1 _ j1 _ _ _ _ _ c1 l1 h =>
  cases h with
  | step _ _ a2 r2 _ j2 _ _ _ _ _ c2 l2 h =>
  cases h with
  | step _ _ a3 r3 _ j3 _ _ _ _ _ c3 l3 h =>
  cases h with
  | step _ _ a4 r4 _ j4 _ _ _ _ _ c4 l4 h =>
  cases h with
  | step _ _ a5 r5 _ j5 _ _ _ _ _ c5 l5 h =>
  cases h with
  | step _ _ a6 r6 _ j6 _ _ _ _ _ c6 l6 h =>
  cases h with
  | step _ _ _ _ _ _ _ _ _ _ h6 => exact absurd h6 (by decide)
  | done _ hB =>
  obtain ⟨x1, e1, p1⟩ := l1
  obtain ⟨x2, e2, p2⟩ := l2
  obtain ⟨x3, e3, p3⟩ := l3
  obtain ⟨x4, e4, p4⟩ := l4
  obtain ⟨x5, e5, p5⟩ := l5
  obtain ⟨x6, e6, p6⟩ := l6
  rw [show (1 + 1 : Int) = 2 from rfl] at e2 p2
  rw [show (1 + 1 + 1 : Int) = 3 from rfl] at e3 p3
  rw [show (1 + 1 + 1 + 1 : Int) = 4 from rfl] at e4 p4
  rw [show (1 + 1 + 1 + 1 + 1 : Int) = 5 from rfl] at e5 p5
  rw [show (1 + 1 + 1 + 1 + 1 + 1 : Int) = 6 from rfl] at e6 p6
  simp only [LineP] at p1 p2 p3 p4 p5 p6
  obtain ⟨y1, n1, rfl, ⟨v1, q1, z1⟩, rfl⟩ := p1
  obtain ⟨y2, y3, n2, n3, rfl, ⟨v2, q2, z2⟩, ⟨v3, q3, z3⟩, rfl⟩ := p2
  obtain ⟨y4, n4, rfl, v4, q4, rfl⟩ := p3
  obtain ⟨y5, y6, n5, n6, rfl, ⟨v5, q5, z5⟩, ⟨v6, q6, z6⟩, rfl⟩ := p4
  obtain ⟨y7, n7, rfl, ⟨v7, q7, z7⟩, rfl⟩ := p5
  obtain ⟨y8, n8, rfl, ⟨v8, q8, z8⟩, rfl⟩ := p6
  have hb := jobB_all hB
  simp only at hb
  have s1 : smallI n1 = n1 := by unfold smallI at hb ⊢; omega
  have s6 : smallI n6 = n6 := by unfold smallI at hb ⊢; omega
  have s8 : smallI n8 = n8 := by unfold smallI at hb ⊢; omega
  simp only [s1, s6, s8] at hB hb ⊢
  have f4 : Wf .i64 n4 := by
    have := hb.2.2.2.2.2.1
    simp only [foldB, decide_eq_true_eq] at this
    rw [Wf.i64]; omega
  refine ⟨?_, hB, ⟨v1, v2, v3, f4, v6, v5, v7, v8⟩, trivial⟩
  rw [jobL_lines]
  have k1 := words_eq e1
  have k2 := words_eq e2
  have k3 := words_eq e3
  have k4 := words_eq e4
  have k5 := words_eq e5
  have k6 := words_eq e6
  rw [c1.1, c2.1, c3.1, c4.1, c5.1, c6.1, k1, k2, k3, k4, k5, k6, q1, q2, q3, q4, q5, q6, q7, q8]
  simp [jobWs, lineL, joinL, sepL, joinC, wordJ]
end Go.Proofs.YtljbclkbmjjmdaaGreatDoor
