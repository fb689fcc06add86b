/- A plan, as it is printed. -/
import Derived.Test.YtljbclkbmjjmdaaGreatDoorT2
import Derived.Test.YtljbclkbmjjmdaaGreatDoorT5
import Derived.Test.YtljbclkbmjjmdaaGreatDoorS6
namespace Go.Proofs.YtljbclkbmjjmdaaGreatDoor
open Go.RowKit Go.Shelf

theorem jobB_fold {j : Jb} (h : jobB j = true) : foldB j.fold = true := by
  unfold jobB at h
  simp only [Bool.and_eq_true] at h
  exact h.1.2
theorem job_print (j : Jb) (hj : j.wf) (h : jobB j = true) (w : World) (ht : Tab w) :
    Calls Tryz.prog 27 #[.agg #[.int .i64 j.groups, .int .i64 j.size, .int .i64 j.slide, .int .i64 j.fold, .int .i64 j.fuel, .int .i64 j.limit, .int .i64 j.delay, .int .i64 j.idle]] w
    fun e w' => e = .returned (.tuple #[.string ⟨(jobL j).toArray⟩, .int .i64 0]) ∧ Below w.heap.size w w' := by
  obtain ⟨j0, j1, j2, j3, j4, j5, j6, j7⟩ := hj
  have hl : ∀ n, Wf .i64 n → (ByteArray.mk (32 :: Lib.itoa n).toArray).size ≤ 21 := fun n hn => by rw [mk_size]; have := itoa_len n hn; simp; omega
  have hA : Below w.heap.size w (w.alloc (.cells #[.int .i64 j.groups, .int .i64 j.size, .int .i64 j.slide, .int .i64 j.fold, .int .i64 j.fuel, .int .i64 j.limit, .int .i64 j.delay, .int .i64 j.idle] 23)) := (Below.refl _ w).alloc (Nat.le_refl _) _
  refine (job_lines j (jobB_fold h) ⟨(32 :: Lib.itoa j.groups).toArray⟩ ⟨(32 :: Lib.itoa j.size).toArray⟩ ⟨(32 :: Lib.itoa j.slide).toArray⟩ ⟨(32 :: Lib.itoa j.limit).toArray⟩ ⟨(32 :: Lib.itoa j.fuel).toArray⟩ ⟨(32 :: Lib.itoa j.delay).toArray⟩ ⟨(32 :: Lib.itoa j.idle).toArray⟩ ⟨(foldL j.fold).toArray⟩
    (hl _ j0) (hl _ j1) (hl _ j2) (hl _ j5) (hl _ j4) (hl _ j6) (hl _ j7) (by rw [mk_size]; have := foldL_len j.fold; omega) w (ht.mono hA) ((job_impl j _).mono fun _ _ ⟨e, hb⟩ => ⟨by rw [e, h], hb⟩) (fun W => names_calls _ (jobB_fold h) W)
    (fun W hT => job_n _ j0 W hT) (fun W hT => job_n _ j1 W hT) (fun W hT => job_n _ j2 W hT) (fun W hT => job_n _ j5 W hT) (fun W hT => job_n _ j4 W hT) (fun W hT => job_n _ j6 W hT) (fun W hT => job_n _ j7 W hT)).mono ?_
  rintro e w' ⟨rfl, hb⟩
  refine ⟨?_, hb⟩
  congr 4

def workersWord : List UInt8 := [119, 111, 114, 107, 101, 114, 115]
/-- A plan's text. -/
def planL (p : Pl) : List UInt8 := jobL p.job ++ lineL [workersWord, Lib.itoa p.workers] ++ p.inputs.flatMap sourceL ++ p.acts.flatMap actL
structure PlWf (p : Pl) : Prop where
  job : p.job.wf
  workers : Wf .i64 p.workers
  inputs : ∀ s ∈ p.inputs, ∀ e ∈ s, e.wf
  acts : ∀ a ∈ p.acts, a.wf

theorem flat_len {α : Type} (f : α → List UInt8) (k : Nat) : ∀ (l : List α), (∀ x ∈ l, (f x).length ≤ k) → (l.flatMap f).length ≤ l.length * k
  | [], _ => by simp
  | x :: r, h => by
    rw [List.flatMap_cons, List.length_append, List.length_cons, Nat.add_mul]
    have := flat_len f k r (fun y hy => h y (by simp [hy]))
    have := h x (by simp)
    omega
theorem joinL_len (ss : List (List UInt8)) (k : Nat) (h : ∀ s ∈ ss, s.length ≤ k) : (lineL ss).length ≤ ss.length * (k + 1) + 1 := by
  unfold lineL joinL sepL
  have := flat_len (fun s : List UInt8 => 32 :: s) (k + 1) ss (fun s hs => by have := h s hs; simp; omega)
  simp only [List.length_append, List.length_drop, List.length_singleton]
  omega
theorem wordL_len (n : Int) : (wordL n).length ≤ 7 := by
  unfold wordL
  repeat' split
  all_goals decide
theorem evL_len (e : Ev) (h : e.wf) (hk : e.key.size ≤ 16) : (evL e).length ≤ 58 := by
  unfold evL
  have := itoa_len _ h.2.1
  have := itoa_len _ h.2.2
  simp only [List.length_append, List.length_singleton, bytesL_length]
  omega
theorem sourceL_len (s : List Ev) (h : ∀ e ∈ s, e.wf) (hk : ∀ e ∈ s, e.key.size ≤ 16) (hn : s.length ≤ 200) : (sourceL s).length ≤ 12000 := by
  unfold sourceL
  have := joinL_len (srcWord :: s.map evL) 58 (by
    intro x hx
    rcases List.mem_cons.1 hx with rfl | hx
    · decide
    · obtain ⟨e, he, rfl⟩ := List.mem_map.1 hx
      exact evL_len e (h e he) (hk e he))
  simp only [List.length_cons, List.length_map] at this
  omega
theorem actL_len (a : Ac) (h : a.wf) : (actL a).length ≤ 43 := by
  have h1 := itoa_len _ h.2.1
  have h2 := itoa_len _ h.2.2
  have h3 := wordL_len a.what
  unfold actL
  split
  · have := joinL_len [wordL a.what] 20 (by simp; omega)
    simpa using Nat.le_trans this (by simp)
  · split
    · have := joinL_len [wordL a.what, Lib.itoa a.which] 20 (by simp; omega)
      simpa using Nat.le_trans this (by simp)
    · have := joinL_len [wordL a.what, Lib.itoa a.who] 20 (by simp; omega)
      simpa using Nat.le_trans this (by simp)
theorem jobL_len (j : Jb) (hj : j.wf) : (jobL j).length ≤ 300 := by
  obtain ⟨j0, j1, j2, j3, j4, j5, j6, j7⟩ := hj
  have l0 := itoa_len _ j0; have l1 := itoa_len _ j1; have l2 := itoa_len _ j2; have l4 := itoa_len _ j4; have l5 := itoa_len _ j5; have l6 := itoa_len _ j6; have l7 := itoa_len _ j7
  have l3 := foldL_len j.fold
  unfold jobL
  simp only [List.length_append, List.length_cons, List.length_nil]
  omega
/-- What a plan that may be has about its inputs. -/
theorem planB_inputs {p : Pl} (h : planB p = true) : p.inputs.length ≤ 4 ∧ (∀ s ∈ p.inputs, s.length ≤ 200 ∧ ∀ e ∈ s, e.key.size ≤ 16) ∧ p.acts.length ≤ 400 ∧ jobB p.job = true := by
  unfold planB inputsB at h
  simp only [Bool.and_eq_true, decide_eq_true_eq, List.all_eq_true] at h
  obtain ⟨⟨⟨⟨⟨hj, hi⟩, hw⟩, ha⟩, hl⟩, hc⟩ := h
  refine ⟨hi.1.2, fun s hs => ?_, ha, hj⟩
  have := hi.2 s hs
  unfold inputB at this
  simp only [Bool.and_eq_true, decide_eq_true_eq, List.all_eq_true] at this
  refine ⟨this.1, fun e he => ?_⟩
  have h2 := this.2 e he
  unfold eventB at h2
  simp only [decide_eq_true_eq] at h2
  exact h2.2.1
theorem planL_len (p : Pl) (hw : PlWf p) (h : planB p = true) : (jobL p.job).length ≤ 300 ∧ (lineL [workersWord, Lib.itoa p.workers]).length ≤ 43 ∧ (p.inputs.flatMap sourceL).length ≤ 48000 ∧ (p.acts.flatMap actL).length ≤ 17200 := by
  obtain ⟨h1, h2, h3, _⟩ := planB_inputs h
  refine ⟨jobL_len _ hw.job, ?_, ?_, ?_⟩
  · have := joinL_len [workersWord, Lib.itoa p.workers] 20 (by have := itoa_len _ hw.workers; simp [workersWord]; omega)
    simpa using Nat.le_trans this (by simp)
  · have := flat_len sourceL 12000 p.inputs (fun s hs => sourceL_len s (hw.inputs s hs) (h2 s hs).2 (h2 s hs).1)
    omega
  · have := flat_len actL 43 p.acts (fun a ha => actL_len a (hw.acts a ha))
    omega
theorem flat_take {α : Type} (f : α → List UInt8) (l : List α) (k : Nat) (hk : k < l.length) : (l.take (k + 1)).flatMap f = (l.take k).flatMap f ++ f l[k] := by
  rw [List.take_succ_eq_append_getElem hk, List.flatMap_append]
  simp
theorem flat_take_len {α : Type} (f : α → List UInt8) (l : List α) (k : Nat) : ((l.take k).flatMap f).length ≤ (l.flatMap f).length := by
  have : l.flatMap f = (l.take k).flatMap f ++ (l.drop k).flatMap f := by rw [← List.flatMap_append, List.take_append_drop]
  rw [this, List.length_append]
  omega
end Go.Proofs.YtljbclkbmjjmdaaGreatDoor
