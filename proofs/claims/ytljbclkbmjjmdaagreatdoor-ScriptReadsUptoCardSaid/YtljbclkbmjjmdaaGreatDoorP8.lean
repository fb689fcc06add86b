/- The walks of a job's line by its number, and of a job that is read. -/
import Derived.Test.YtljbclkbmjjmdaaGreatDoorP7
namespace Go.Proofs.YtljbclkbmjjmdaaGreatDoor
open Go.RowKit Go.Shelf
theorem two_of {α : Type} {xs : List α} (h : xs.length = 2) : ∃ x y, xs = [x, y] := by
  match xs, h with
  | [x, y], _ => exact ⟨x, y, rfl⟩
theorem reads_1 (r : Nat) (j : Jb) : Reads 1 1 74 r j := by
  refine ⟨enters_of Tryz.func74 (by kernel_rfl) rfl, fun W v xs hl hs he hz hr => ?_⟩
  obtain ⟨x, rfl⟩ : ∃ x, xs = [x] := List.length_eq_one_iff.1 (by omega)
  exact rd_groups r j x v W hs he (hz x (by simp)) hr
theorem many_1 (j : Jb) : ∀ xs c, LineP 1 xs j c → (xs.length : Int) = 1 := by
  intro xs c hc
  rw [lineP1] at hc
  obtain ⟨_, _, rfl, _⟩ := hc
  rfl
theorem reads_2 (r : Nat) (j : Jb) : Reads 2 2 75 r j := by
  refine ⟨enters_of Tryz.func75 (by kernel_rfl) rfl, fun W v xs hl hs he hz hr => ?_⟩
  obtain ⟨x, y, rfl⟩ : ∃ x y, xs = [x, y] := two_of (by omega)
  exact rd_window r j x y v W hs he (hz x (by simp)) (hz y (by simp)) hr
theorem many_2 (j : Jb) : ∀ xs c, LineP 2 xs j c → (xs.length : Int) = 2 := by
  intro xs c hc
  rw [lineP2] at hc
  obtain ⟨_, _, _, _, rfl, _⟩ := hc
  rfl
theorem reads_3 (r : Nat) (j : Jb) : Reads 3 1 76 r j := by
  refine ⟨enters_of Tryz.func76 (by kernel_rfl) rfl, fun W v xs hl hs he hz hr => ?_⟩
  obtain ⟨x, rfl⟩ : ∃ x, xs = [x] := List.length_eq_one_iff.1 (by omega)
  exact rd_fold r j x v W hs hr
theorem many_3 (j : Jb) : ∀ xs c, LineP 3 xs j c → (xs.length : Int) = 1 := by
  intro xs c hc
  rw [lineP3] at hc
  obtain ⟨_, _, rfl, _⟩ := hc
  rfl
theorem reads_4 (r : Nat) (j : Jb) : Reads 4 2 77 r j := by
  refine ⟨enters_of Tryz.func77 (by kernel_rfl) rfl, fun W v xs hl hs he hz hr => ?_⟩
  obtain ⟨x, y, rfl⟩ : ∃ x y, xs = [x, y] := two_of (by omega)
  exact rd_loop r j x y v W hs he (hz x (by simp)) (hz y (by simp)) hr
theorem many_4 (j : Jb) : ∀ xs c, LineP 4 xs j c → (xs.length : Int) = 2 := by
  intro xs c hc
  rw [lineP4] at hc
  obtain ⟨_, _, _, _, rfl, _⟩ := hc
  rfl
theorem reads_5 (r : Nat) (j : Jb) : Reads 5 1 78 r j := by
  refine ⟨enters_of Tryz.func78 (by kernel_rfl) rfl, fun W v xs hl hs he hz hr => ?_⟩
  obtain ⟨x, rfl⟩ : ∃ x, xs = [x] := List.length_eq_one_iff.1 (by omega)
  exact rd_delay r j x v W hs he (hz x (by simp)) hr
theorem many_5 (j : Jb) : ∀ xs c, LineP 5 xs j c → (xs.length : Int) = 1 := by
  intro xs c hc
  rw [lineP5] at hc
  obtain ⟨_, _, rfl, _⟩ := hc
  rfl
theorem reads_6 (r : Nat) (j : Jb) : Reads 6 1 79 r j := by
  refine ⟨enters_of Tryz.func79 (by kernel_rfl) rfl, fun W v xs hl hs he hz hr => ?_⟩
  obtain ⟨x, rfl⟩ : ∃ x, xs = [x] := List.length_eq_one_iff.1 (by omega)
  exact rd_idle r j x v W hs he (hz x (by simp)) hr
theorem many_6 (j : Jb) : ∀ xs c, LineP 6 xs j c → (xs.length : Int) = 1 := by
  intro xs c hc
  rw [lineP6] at hc
  obtain ⟨_, _, rfl, _⟩ := hc
  rfl
set_option maxHeartbeats 1000000 in
set_option maxRecDepth 100000 in
theorem one_job (k : Int) (h1 : 1 ≤ k) (h6 : k ≤ 6) (r : Nat) (j : Jb) (s : ByteArray) (w : World) (hs : s.size < 4294967281) (h : Env w) (hr : RdAt r j w) :
    Calls Tryz.prog 44 #[.pointer (some ⟨r, 0, none⟩), .int .i64 k, .string s] w (OnePost r k s.data.toList j w) := by
  have hk : k = 1 ∨ k = 2 ∨ k = 3 ∨ k = 4 ∨ k = 5 ∨ k = 6 := by omega
  rcases hk with rfl | rfl | rfl | rfl | rfl | rfl
  · have HL := Lib.hid (line_job 1 1 74 r j s (ByteArray.mk #[103, 114, 111, 117, 112, 115]) w (by decide) (by decide) (reads_1 r j) hs h hr (Lib.hid rfl) (Lib.hid (many_1 j)))
    clear h hr
    go_enter Tryz.func44, Tryz.ntmps44
    go_wp2_with (go_at_call 73; (with_reducible refine HL.out.mono ?_))
    rintro e w1 ⟨b, j', rfl, h1, h2, h3⟩
    have HP := Lib.hid h3
    clear h3
    go_wp2_with fail
    go_ret
    exact ⟨b, j', rfl, h1, h2, HP.out⟩
  · have HL := Lib.hid (line_job 2 2 75 r j s (ByteArray.mk #[119, 105, 110, 100, 111, 119]) w (by decide) (by decide) (reads_2 r j) hs h hr (Lib.hid rfl) (Lib.hid (many_2 j)))
    clear h hr
    go_enter Tryz.func44, Tryz.ntmps44
    go_wp2_with (go_at_call 73; (with_reducible refine HL.out.mono ?_))
    rintro e w1 ⟨b, j', rfl, h1, h2, h3⟩
    have HP := Lib.hid h3
    clear h3
    go_wp2_with fail
    go_ret
    exact ⟨b, j', rfl, h1, h2, HP.out⟩
  · have HL := Lib.hid (line_job 3 1 76 r j s (ByteArray.mk #[102, 111, 108, 100]) w (by decide) (by decide) (reads_3 r j) hs h hr (Lib.hid rfl) (Lib.hid (many_3 j)))
    clear h hr
    go_enter Tryz.func44, Tryz.ntmps44
    go_wp2_with (go_at_call 73; (with_reducible refine HL.out.mono ?_))
    rintro e w1 ⟨b, j', rfl, h1, h2, h3⟩
    have HP := Lib.hid h3
    clear h3
    go_wp2_with fail
    go_ret
    exact ⟨b, j', rfl, h1, h2, HP.out⟩
  · have HL := Lib.hid (line_job 4 2 77 r j s (ByteArray.mk #[108, 111, 111, 112]) w (by decide) (by decide) (reads_4 r j) hs h hr (Lib.hid rfl) (Lib.hid (many_4 j)))
    clear h hr
    go_enter Tryz.func44, Tryz.ntmps44
    go_wp2_with (go_at_call 73; (with_reducible refine HL.out.mono ?_))
    rintro e w1 ⟨b, j', rfl, h1, h2, h3⟩
    have HP := Lib.hid h3
    clear h3
    go_wp2_with fail
    go_ret
    exact ⟨b, j', rfl, h1, h2, HP.out⟩
  · have HL := Lib.hid (line_job 5 1 78 r j s (ByteArray.mk #[100, 101, 108, 97, 121]) w (by decide) (by decide) (reads_5 r j) hs h hr (Lib.hid rfl) (Lib.hid (many_5 j)))
    clear h hr
    go_enter Tryz.func44, Tryz.ntmps44
    go_wp2_with (go_at_call 73; (with_reducible refine HL.out.mono ?_))
    rintro e w1 ⟨b, j', rfl, h1, h2, h3⟩
    have HP := Lib.hid h3
    clear h3
    go_wp2_with fail
    go_ret
    exact ⟨b, j', rfl, h1, h2, HP.out⟩
  · have HL := Lib.hid (line_job 6 1 79 r j s (ByteArray.mk #[105, 100, 108, 101]) w (by decide) (by decide) (reads_6 r j) hs h hr (Lib.hid rfl) (Lib.hid (many_6 j)))
    clear h hr
    go_enter Tryz.func44, Tryz.ntmps44
    go_wp2_with (go_at_call 73; (with_reducible refine HL.out.mono ?_))
    rintro e w1 ⟨b, j', rfl, h1, h2, h3⟩
    have HP := Lib.hid h3
    clear h3
    go_wp2_with fail
    go_ret
    exact ⟨b, j', rfl, h1, h2, HP.out⟩
theorem heap_alloc_new' {W : World} {n : Nat} (h : W.heap.size = n) (O : Obj) : (W.alloc O).heap[n]? = some O := by rw [← h]; exact heap_alloc_new W O
def JobPost (l : List UInt8) (w : World) (e : Ending) (w' : World) : Prop :=
  ∃ x f n, e = .returned (.tuple #[.agg (jbCells x), .int .i64 f, .int .i64 n]) ∧ JobRun 1 l zeroJ x f n ∧ Below w.heap.size w w'
theorem results_cell_tmp2_row {P : Program} {fn : Func} {p u v : Tmp} {ty : TypeId} (h : fn.results = #[.cell p ty, .tmp u, .tmp v]) (tmps : Array Value) (w : World) (g : Nat) (t : TypeId) (cs : Array Value) (fr : Nat × Nat) (d : TypeDesc)
    (hp : tmps.getD p undef = .pointer (some ⟨g, 0, none⟩)) (hg : w.heap[g]? = some (.cells cs t fr))
    (hu : P.underlying ty = some d) (hd : (match d with | .struct _ | .array _ _ => true | _ => false) = true) (hi : (P.info? ty).map (·.size) = some cs.size) :
    (results fn tmps).run P w = .ok (.tuple #[.agg cs, tmps.getD u undef, tmps.getD v undef]) w := by
  have hp' : tmps[p]?.getD undef = .pointer (some ⟨g, 0, none⟩) := by simpa using hp
  simp [results, h, hp', asAddr, run_loadVar_row w g t ty cs fr d hg hu hd hi]
theorem st8_heap {W : World} {r : Nat} {y0 y1 y2 y3 y4 y5 y6 y7 : Value} (z0 z1 z2 z3 z4 z5 z6 z7 : Value) {T : TypeId} (h : W.heap[r]? = some (.cells #[y0, y1, y2, y3, y4, y5, y6, y7] T (0, 0))) :
    ((((((((W.setCell ⟨r, 0, none⟩ z0).setCell ⟨r, 1, none⟩ z1).setCell ⟨r, 2, none⟩ z2).setCell ⟨r, 3, none⟩ z3).setCell ⟨r, 4, none⟩ z4).setCell ⟨r, 5, none⟩ z5).setCell ⟨r, 6, none⟩ z6).setCell ⟨r, 7, none⟩ z7).heap[r]? = some (.cells #[z0, z1, z2, z3, z4, z5, z6, z7] T (0, 0)) := by
  have h0 := heap_setCell_same W r 0 _ T z0 h
  have h1 := heap_setCell_same _ r 1 _ T z1 h0
  have h2 := heap_setCell_same _ r 2 _ T z2 h1
  have h3 := heap_setCell_same _ r 3 _ T z3 h2
  have h4 := heap_setCell_same _ r 4 _ T z4 h3
  have h5 := heap_setCell_same _ r 5 _ T z5 h4
  have h6 := heap_setCell_same _ r 6 _ T z6 h5
  have h7 := heap_setCell_same _ r 7 _ T z7 h6
  simpa using h7
theorem job_info : (Tryz.prog.info? 23).map (·.size) = some 8 := by kernel_rfl
theorem job_struct : ∃ fs, Tryz.prog.underlying 23 = some (.struct fs) := by
  have h : (match Tryz.prog.underlying 23 with | some (.struct _) => true | _ => false) = true := by kernel_rfl
  split at h
  · rename_i fs hu; exact ⟨fs, hu⟩
  · cases h
def ResJ (b : Nat) (W : World) : Prop := W.heap[b]? = some (.cells #[.int .i64 0, .int .i64 0, .int .i64 0, .int .i64 0, .int .i64 0, .int .i64 0, .int .i64 0, .int .i64 0] 23 (0, 0))
theorem job_ret {b : Nat} {W : World} (x : Jb) (h : ResJ b W) : ((((((((W.setCell ⟨b, 0, none⟩ (.int .i64 x.groups)).setCell ⟨b, 1, none⟩ (.int .i64 x.size)).setCell ⟨b, 2, none⟩ (.int .i64 x.slide)).setCell ⟨b, 3, none⟩ (.int .i64 x.fold)).setCell ⟨b, 4, none⟩ (.int .i64 x.fuel)).setCell ⟨b, 5, none⟩ (.int .i64 x.limit)).setCell ⟨b, 6, none⟩ (.int .i64 x.delay)).setCell ⟨b, 7, none⟩ (.int .i64 x.idle)).heap[b]? = some (.cells (jbCells x) 23 (0, 0)) := st8_heap _ _ _ _ _ _ _ _ h
theorem res_cells {b : Nat} {W : World} (h : ResJ b W) : ∀ i, i < 8 → W.cell? ⟨b, i, none⟩ = some (.int .i64 0) ∧ W.frozen? ⟨b, i, none⟩ = false := by
  unfold ResJ at h
  intro i hi
  refine ⟨?_, by simp [World.frozen?, h]⟩
  rw [Lib.cell_of_heap h]
  match i, hi with
  | 0, _ => rfl
  | 1, _ => rfl
  | 2, _ => rfl
  | 3, _ => rfl
  | 4, _ => rfl
  | 5, _ => rfl
  | 6, _ => rfl
  | 7, _ => rfl
set_option maxHeartbeats 1000000 in
set_option maxRecDepth 100000 in
theorem job_parse (s : ByteArray) (hs : s.size < 4294967281) (w : World) (h : Env w) : Calls Tryz.prog 15 #[.string s] w (JobPost s.data.toList w) := by
  obtain ⟨fs, hu⟩ := job_struct
  obtain ⟨L, hL⟩ : ∃ L, L = s.data.toList := ⟨_, rfl⟩
  rw [← hL]
  have HL := Lib.hid hL
  clear hL
  go_enter Tryz.func15, Tryz.ntmps15
  go_wp2_with fail
  go_loopw [0, 6] (fun v0 v6 wr => ∃ (k : Nat) (t : ByteArray) (j : Jb), 1 ≤ k ∧ k ≤ 7 ∧ v6 = .int .i64 k ∧ v0 = .string t ∧ t.size < 4294967281 ∧ Hid (RdAt (w.heap.size + 1) j wr) ∧ Hid (ResJ w.heap.size wr) ∧ Below w.heap.size w wr ∧ Hid (∀ x f n, JobRun k t.data.toList j x f n → JobRun 1 L zeroJ x f n)) (fun _ v6 _ => 7 - (intOf v6).toNat)
  case atStart => exact ⟨1, s, zeroJ, by omega, by omega, rfl, rfl, hs, Lib.hid (heap_alloc_new' (by simp) _), Lib.hid (heap_alloc_keep _ (heap_alloc_new w _)), by (repeat (first | exact Below.refl _ _ | assumption | refine ext_alloc ?_ _ | refine below_drewN ?_ _ | refine ext_drew ?_ | (refine below_tr ?_ (by assumption)))), Lib.hid (fun x f n hr => by rw [HL.out]; exact hr)⟩
  case round =>
   obtain ⟨k, t, j, hk1, hk7, rfl, rfl, ht, hrd, hres, hb, hrun⟩ := hrel
   by_cases hlt : k ≤ 6
   · have HC := Lib.hid (cut_calls t 10 ht wr (h.mono hb))
     obtain ⟨a, ha⟩ : ∃ a, a = ByteArray.mk (cut1 10 t.data.toList).1.toArray := ⟨_, rfl⟩
     obtain ⟨q, hq⟩ : ∃ q, q = ByteArray.mk (cut1 10 t.data.toList).2.1.toArray := ⟨_, rfl⟩
     obtain ⟨B, hB⟩ : ∃ B, B = (cut1 10 t.data.toList).2.2 := ⟨_, rfl⟩
     rw [← ha, ← hq, ← hB] at HC
     have hsa : a.size ≤ t.size := by rw [ha, mk_size]; exact (cut1_len 10 _).1
     have hsq : q.size ≤ t.size := by rw [hq, mk_size]; exact (cut1_len 10 _).2
     have HE := Lib.hid (And.intro ha (And.intro hq hB))
     have HO := fun W (hW : Below w.heap.size w W) (hr : RdAt (w.heap.size + 1) j W) => Lib.hid (one_job k (by omega) (by omega) (w.heap.size + 1) j a W (by omega) (h.mono hW) hr)
     clear ha hq hB
     go_wp2_with (go_at_call 13; (with_reducible refine HC.out.mono ?_))
     rintro e w1 ⟨rfl, hb1⟩
     have hbx : Below w.heap.size w w1 := below_tr hb hb1
     have HRD := Lib.hid (hrd.out.mono hb1)
     have HRES := Lib.hid (show ResJ w.heap.size w1 from (hb1.block _ (Array.getElem?_eq_some_iff.1 hres.out).1).trans hres.out)
     cases B
     · have HN := Lib.hid (JobRun.bad k t.data.toList j (by omega) (by omega) fun a' b' j' hc _ => no_cut10 HE.out.2.2.symm a' b' hc)
       obtain ⟨d0, u0⟩ := res_cells HRES.out 0 (by decide)
       obtain ⟨d1, u1⟩ := res_cells HRES.out 1 (by decide)
       obtain ⟨d2, u2⟩ := res_cells HRES.out 2 (by decide)
       obtain ⟨d3, u3⟩ := res_cells HRES.out 3 (by decide)
       obtain ⟨d4, u4⟩ := res_cells HRES.out 4 (by decide)
       obtain ⟨d5, u5⟩ := res_cells HRES.out 5 (by decide)
       obtain ⟨d6, u6⟩ := res_cells HRES.out 6 (by decide)
       obtain ⟨d7, u7⟩ := res_cells HRES.out 7 (by decide)
       clear hrd hres hb1 HC HO
       go_wp2_with fail
       refine bodyPost_ret (results_cell_tmp2_row rfl _ _ w.heap.size _ (jbCells zeroJ) (0, 0) (.struct fs) rfl (job_ret zeroJ HRES.out) hu rfl job_info) rfl ?_
       exact ⟨zeroJ, 131, k, rfl, hrun.out _ _ _ HN.out, by (repeat (with_reducible refine ext_setCell ?_ (Nat.le_refl _) _)); exact hbx⟩
     · have hcut : Cut10 t.data.toList a.data.toList q.data.toList := by
         rw [cut10_iff, HE.out.1, HE.out.2.1]
         have := HE.out.2.2
         simp only
         rw [show cut1 10 t.data.toList = ((cut1 10 t.data.toList).1, (cut1 10 t.data.toList).2.1, (cut1 10 t.data.toList).2.2) from rfl, ← this]
       have HCUT := Lib.hid hcut
       clear hcut hrd hres HC
       go_wp2_with (go_at_call 44; (with_reducible refine (HO _ hbx HRD.out).out.mono ?_))
       rintro e w2 ⟨bo, j', rfl, hr2, hg2, hp⟩
       have HRD2 := Lib.hid hr2
       have HP := Lib.hid hp
       have HRES2 := Lib.hid (show ResJ w.heap.size w2 from (hg2.block _ (Array.getElem?_eq_some_iff.1 HRES.out).1 (by intro h'; have := Option.some.inj h'; omega)).trans HRES.out)
       have hby : Below w.heap.size w w2 := ⟨hg2.os.trans hbx.os, hg2.tape.trans hbx.tape, hg2.output.trans hbx.output, Nat.le_trans hbx.size hg2.size, fun i hi => (hg2.block i (Nat.lt_of_lt_of_le hi hbx.size) (by intro h'; have := Option.some.inj h'; omega)).trans (hbx.block i hi)⟩
       clear hp hr2 hg2 HO HRD
       cases bo
       · have HN := Lib.hid (JobRun.bad k t.data.toList j (by omega) (by omega) fun a' b' j' hc hl => by
           obtain ⟨rfl, rfl⟩ := HCUT.out.eq hc
           rcases HP.out with ⟨h', _⟩ | ⟨_, h'⟩
           · cases h'
           · exact h' _ hl)
         obtain ⟨d0, u0⟩ := res_cells HRES2.out 0 (by decide)
         obtain ⟨d1, u1⟩ := res_cells HRES2.out 1 (by decide)
         obtain ⟨d2, u2⟩ := res_cells HRES2.out 2 (by decide)
         obtain ⟨d3, u3⟩ := res_cells HRES2.out 3 (by decide)
         obtain ⟨d4, u4⟩ := res_cells HRES2.out 4 (by decide)
         obtain ⟨d5, u5⟩ := res_cells HRES2.out 5 (by decide)
         obtain ⟨d6, u6⟩ := res_cells HRES2.out 6 (by decide)
         obtain ⟨d7, u7⟩ := res_cells HRES2.out 7 (by decide)
         clear hb1 hbx
         have hbx := hby
         go_wp2_with fail
         refine bodyPost_ret (results_cell_tmp2_row rfl _ _ w.heap.size _ (jbCells zeroJ) (0, 0) (.struct fs) rfl (job_ret zeroJ HRES2.out) hu rfl job_info) rfl ?_
         exact ⟨zeroJ, 131, k, rfl, hrun.out _ _ _ HN.out, by (repeat (with_reducible refine ext_setCell ?_ (Nat.le_refl _) _)); exact hbx⟩
       · have HN := Lib.hid (fun x f n (hr : JobRun ((k : Int) + 1) q.data.toList j' x f n) => hrun.out x f n (JobRun.step k t.data.toList _ _ j j' x f n (by omega) (by omega) HCUT.out (by
           rcases HP.out with ⟨_, h'⟩ | ⟨h', _⟩
           · exact h'
           · cases h') hr))
         clear hb1 hbx
         go_wp2_with fail
         go_roundw
         case rel => exact ⟨k + 1, q, j', by omega, by omega, by go_num, rfl, by omega, HRD2, HRES2, hby, HN⟩
         case measure => simp [intOf]; omega
   · obtain rfl : k = 7 := by omega
     have HRES := hres
     obtain ⟨d0, u0⟩ := res_cells HRES.out 0 (by decide)
     obtain ⟨d1, u1⟩ := res_cells HRES.out 1 (by decide)
     obtain ⟨d2, u2⟩ := res_cells HRES.out 2 (by decide)
     obtain ⟨d3, u3⟩ := res_cells HRES.out 3 (by decide)
     obtain ⟨d4, u4⟩ := res_cells HRES.out 4 (by decide)
     obtain ⟨d5, u5⟩ := res_cells HRES.out 5 (by decide)
     obtain ⟨d6, u6⟩ := res_cells HRES.out 6 (by decide)
     obtain ⟨d7, u7⟩ := res_cells HRES.out 7 (by decide)
     have hbx := hb
     by_cases h0 : t.data.toList = []
     · have he : (t.toList == []) = true := by rw [ByteArray.toList_eq, h0]; rfl
       have he2 : t.toList.isEmpty = true := by rw [ByteArray.toList_eq, h0]; rfl
       have HJ := Lib.hid (job_impl j wr)
       have HT := Lib.hid h0
       clear h0
       have c0 : wr.cell? ⟨w.heap.size + 1, 0, none⟩ = some (.int .i64 j.groups) := (rd_cell hrd.out 0 _ rfl).1
       have c1 : wr.cell? ⟨w.heap.size + 1, 1, none⟩ = some (.int .i64 j.size) := (rd_cell hrd.out 1 _ rfl).1
       have c2 : wr.cell? ⟨w.heap.size + 1, 2, none⟩ = some (.int .i64 j.slide) := (rd_cell hrd.out 2 _ rfl).1
       have c3 : wr.cell? ⟨w.heap.size + 1, 3, none⟩ = some (.int .i64 j.fold) := (rd_cell hrd.out 3 _ rfl).1
       have c4 : wr.cell? ⟨w.heap.size + 1, 4, none⟩ = some (.int .i64 j.fuel) := (rd_cell hrd.out 4 _ rfl).1
       have c5 : wr.cell? ⟨w.heap.size + 1, 5, none⟩ = some (.int .i64 j.limit) := (rd_cell hrd.out 5 _ rfl).1
       have c6 : wr.cell? ⟨w.heap.size + 1, 6, none⟩ = some (.int .i64 j.delay) := (rd_cell hrd.out 6 _ rfl).1
       have c7 : wr.cell? ⟨w.heap.size + 1, 7, none⟩ = some (.int .i64 j.idle) := (rd_cell hrd.out 7 _ rfl).1
       go_wp2_with (go_at_call 34; (with_reducible refine HJ.out.mono ?_))
       rintro e w2 ⟨rfl, hb2⟩
       obtain ⟨BJ, hBJ⟩ : ∃ BJ, BJ = jobB j := ⟨_, rfl⟩
       rw [← hBJ]
       have HBJ := Lib.hid hBJ
       have HR2 := Lib.hid (hrd.out.mono hb2)
       have HRES2 := Lib.hid (show ResJ w.heap.size w2 from (hb2.block _ (Array.getElem?_eq_some_iff.1 HRES.out).1).trans HRES.out)
       have hby := below_tr hb hb2
       clear hBJ hrd hres HRES hbx d0 u0 c0 d1 u1 c1 d2 u2 c2 d3 u3 c3 d4 u4 c4 d5 u5 c5 d6 u6 c6 d7 u7 c7
       have hbx := hby
       obtain ⟨d0, u0⟩ := res_cells HRES2.out 0 (by decide)
       obtain ⟨d1, u1⟩ := res_cells HRES2.out 1 (by decide)
       obtain ⟨d2, u2⟩ := res_cells HRES2.out 2 (by decide)
       obtain ⟨d3, u3⟩ := res_cells HRES2.out 3 (by decide)
       obtain ⟨d4, u4⟩ := res_cells HRES2.out 4 (by decide)
       obtain ⟨d5, u5⟩ := res_cells HRES2.out 5 (by decide)
       obtain ⟨d6, u6⟩ := res_cells HRES2.out 6 (by decide)
       obtain ⟨d7, u7⟩ := res_cells HRES2.out 7 (by decide)
       have c0 : w2.cell? ⟨w.heap.size + 1, 0, none⟩ = some (.int .i64 j.groups) := (rd_cell HR2.out 0 _ rfl).1
       have c1 : w2.cell? ⟨w.heap.size + 1, 1, none⟩ = some (.int .i64 j.size) := (rd_cell HR2.out 1 _ rfl).1
       have c2 : w2.cell? ⟨w.heap.size + 1, 2, none⟩ = some (.int .i64 j.slide) := (rd_cell HR2.out 2 _ rfl).1
       have c3 : w2.cell? ⟨w.heap.size + 1, 3, none⟩ = some (.int .i64 j.fold) := (rd_cell HR2.out 3 _ rfl).1
       have c4 : w2.cell? ⟨w.heap.size + 1, 4, none⟩ = some (.int .i64 j.fuel) := (rd_cell HR2.out 4 _ rfl).1
       have c5 : w2.cell? ⟨w.heap.size + 1, 5, none⟩ = some (.int .i64 j.limit) := (rd_cell HR2.out 5 _ rfl).1
       have c6 : w2.cell? ⟨w.heap.size + 1, 6, none⟩ = some (.int .i64 j.delay) := (rd_cell HR2.out 6 _ rfl).1
       have c7 : w2.cell? ⟨w.heap.size + 1, 7, none⟩ = some (.int .i64 j.idle) := (rd_cell HR2.out 7 _ rfl).1
       cases BJ
       · have HN := Lib.hid (hrun.out zeroJ 130 0 (by rw [HT.out]; exact JobRun.wrong j HBJ.out.symm))
         go_wp2_with fail
         refine bodyPost_ret (results_cell_tmp2_row rfl _ _ w.heap.size _ (jbCells zeroJ) (0, 0) (.struct fs) rfl (job_ret zeroJ HRES2.out) hu rfl job_info) rfl ?_
         exact ⟨zeroJ, 130, 0, rfl, HN.out, by (repeat (with_reducible refine ext_setCell ?_ (Nat.le_refl _) _)); exact hbx⟩
       · have HN := Lib.hid (hrun.out j 0 0 (by rw [HT.out]; exact JobRun.done j HBJ.out.symm))
         go_wp2_with fail
         refine bodyPost_ret (results_cell_tmp2_row rfl _ _ w.heap.size _ (jbCells j) (0, 0) (.struct fs) rfl (job_ret j HRES2.out) hu rfl job_info) rfl ?_
         exact ⟨j, 0, 0, rfl, HN.out, by (repeat (with_reducible refine ext_setCell ?_ (Nat.le_refl _) _)); exact hbx⟩
     · have he : (t.toList == []) = false := by rw [ByteArray.toList_eq, beq_eq_false_iff_ne]; exact h0
       have he2 : t.toList.isEmpty = false := by rw [ByteArray.toList_eq, List.isEmpty_eq_false_iff]; exact h0
       have HN := Lib.hid (hrun.out zeroJ 131 7 (JobRun.more _ j h0))
       clear h0
       go_wp2_with fail
       refine bodyPost_ret (results_cell_tmp2_row rfl _ _ w.heap.size _ (jbCells zeroJ) (0, 0) (.struct fs) rfl (job_ret zeroJ hres.out) hu rfl job_info) rfl ?_
       exact ⟨zeroJ, 131, 7, rfl, HN.out, by (repeat (with_reducible refine ext_setCell ?_ (Nat.le_refl _) _)); exact hbx⟩
end Go.Proofs.YtljbclkbmjjmdaaGreatDoor
