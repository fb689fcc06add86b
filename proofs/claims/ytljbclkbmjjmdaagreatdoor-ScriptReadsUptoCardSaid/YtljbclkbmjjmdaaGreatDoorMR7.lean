/- The walk of the reference's Parse of a job. -/
import Derived.Test.YtljbclkbmjjmdaaGreatDoorU2
import Derived.Test.YtljbclkbmjjmdaaGreatDoorP8
namespace Go.Proofs.YtljbclkbmjjmdaaGreatDoor
open Go.RowKit Go.Shelf
theorem len_two {ns : List Int} (h : ns.length = 2) : ∃ a b, ns = [a, b] := by
  match ns, h with
  | [a, b], _ => exact ⟨a, b, rfl⟩
/-- A row of numbers that stands in memory. -/
def NAt (g : Nat) (ns : List Int) (W : World) : Prop := g < W.heap.size ∧ ∀ k x, ns[k]? = some x → W.cell? ⟨g, k, none⟩ = some (.int .i64 x)
theorem NAt.mono {g : Nat} {ns : List Int} {W W' : World} (h : NAt g ns W) (hb : Below W.heap.size W W') : NAt g ns W' := ⟨Nat.lt_of_lt_of_le h.1 hb.size, fun k x hx => ((bcell hb).1 _ _ h.1).trans (h.2 k x hx)⟩
theorem nums_at {B m : Nat} {W : World} {v : Value} {ns : List Int} (h : W.ownsRow B 2 1 v m (ns.map intV)) (hl : ns.length = m) (h0 : 0 < m) : ∃ g c, v = .slice (some ⟨g, 0, none⟩) m c ∧ NAt g ns W := by
  rcases h.2 with ⟨_, h1⟩ | ⟨g, cap, cur, rfl, hg, hc, hr⟩
  · omega
  · refine ⟨g, cap, rfl, (Array.getElem?_eq_some_iff.1 hc).1, fun k x hx => ?_⟩
    have ha : (⟨g, 0, none⟩ : Addr).add k = ⟨g, k, none⟩ := by unfold Addr.add; split <;> simp_all
    have := World.ownsRow.cells ⟨h.1, .inr ⟨g, cap, cur, rfl, hg, hc, hr⟩⟩ (g := g) rfl k (.int .i64 x) (by simp [intV, hx])
    rwa [ha] at this
def pjSlot (g6 c6 g8 c8 g10 c10 g11 c11 g12 c12 n0 : Nat) (n1 n2 n3 f n4 n5 n6 n7 s1 s5 s7 : Int) (t : Tmp) (W : World) (v : Value) : Prop :=
  match t with
  | 6 => v = .slice (some ⟨g6, 0, none⟩) 1 c6
  | 8 => v = .slice (some ⟨g8, 0, none⟩) 2 c8
  | 9 => v = .int .i64 f
  | 10 => v = .slice (some ⟨g10, 0, none⟩) 2 c10
  | 11 => v = .slice (some ⟨g11, 0, none⟩) 1 c11
  | 12 => v = .slice (some ⟨g12, 0, none⟩) 1 c12
  | 72 => v = .slice (some ⟨g6, 0, none⟩) 1 c6
  | 73 => v = .pointer (some ⟨g6, 0, none⟩)
  | 74 => v = .int .i64 n1
  | 75 => v = .int .i64 s1
  | 76 => v = .slice (some ⟨g8, 0, none⟩) 2 c8
  | 77 => v = .pointer (some ⟨g8, 0, none⟩)
  | 78 => v = .int .i64 n2
  | 79 => v = .slice (some ⟨g8, 0, none⟩) 2 c8
  | 80 => v = .pointer (some ⟨g8, 1, none⟩)
  | 81 => v = .int .i64 n3
  | 82 => v = .int .i64 f
  | 83 => v = .slice (some ⟨g10, 0, none⟩) 2 c10
  | 84 => v = .pointer (some ⟨g10, 0, none⟩)
  | 85 => v = .int .i64 n4
  | 86 => v = .slice (some ⟨g10, 0, none⟩) 2 c10
  | 87 => v = .pointer (some ⟨g10, 1, none⟩)
  | 88 => v = .int .i64 n5
  | 89 => v = .int .i64 s5
  | 90 => v = .slice (some ⟨g11, 0, none⟩) 1 c11
  | 91 => v = .pointer (some ⟨g11, 0, none⟩)
  | 92 => v = .int .i64 n6
  | 93 => v = .slice (some ⟨g12, 0, none⟩) 1 c12
  | 94 => v = .pointer (some ⟨g12, 0, none⟩)
  | 95 => v = .int .i64 n7
  | 96 => v = .int .i64 s7
  | 97 => v = .agg #[.int .i64 s1, .int .i64 n2, .int .i64 n3, .int .i64 f, .int .i64 s5, .int .i64 n4, .int .i64 n6, .int .i64 s7]
  | 13 => ∃ p, v = .pointer (some ⟨p, 0, none⟩) ∧ n0 ≤ p ∧ ResJ p W
  | _ => True
theorem ResJ.mono {b : Nat} {W W' : World} (h : ResJ b W) (hb : Below W.heap.size W W') : ResJ b W' := (hb.block _ (Array.getElem?_eq_some_iff.1 h).1).trans h
theorem pjSlot_mono (g6 c6 g8 c8 g10 c10 g11 c11 g12 c12 n0 : Nat) (n1 n2 n3 f n4 n5 n6 n7 s1 s5 s7 : Int) (t : Tmp) (W W' : World) (v : Value) (h : pjSlot g6 c6 g8 c8 g10 c10 g11 c11 g12 c12 n0 n1 n2 n3 f n4 n5 n6 n7 s1 s5 s7 t W v) (hb : Below W.heap.size W W') : pjSlot g6 c6 g8 c8 g10 c10 g11 c11 g12 c12 n0 n1 n2 n3 f n4 n5 n6 n7 s1 s5 s7 t W' v := by
  unfold pjSlot at h ⊢
  split at h <;> first | exact h | (obtain ⟨p, hv, hn, hr⟩ := h; exact ⟨p, hv, hn, hr.mono hb⟩)
set_option maxHeartbeats 16000000 in
set_option maxRecDepth 100000 in
theorem parse13 (s : ByteArray) (hs : s.size < 4294967281) (w : World) : Calls Tryz.prog 48 #[.string s] w (JobPost s.data.toList w) := by
  obtain ⟨fs, hu⟩ := job_struct
  obtain ⟨L, hL⟩ : ∃ L, L = s.data.toList := ⟨_, rfl⟩
  rw [← hL]
  have HR1 := Lib.hid (show ∀ x f n, JobRun 1 s.data.toList zeroJ x f n → JobRun 1 L zeroJ x f n from fun x f n h => by rw [hL]; exact h)
  have HZ0 := Lib.hid (show ResJ (w.heap.size + 1) ((w.alloc (.cells #[.int .i64 0, .int .i64 0, .int .i64 0, .int .i64 0, .int .i64 0, .int .i64 0, .int .i64 0, .int .i64 0] 23)).alloc (.cells #[.int .i64 0, .int .i64 0, .int .i64 0, .int .i64 0, .int .i64 0, .int .i64 0, .int .i64 0, .int .i64 0] 23)) from heap_alloc_new' (by simp) _)
  have HE0 := Lib.hid (show ResJ w.heap.size ((w.alloc (.cells #[.int .i64 0, .int .i64 0, .int .i64 0, .int .i64 0, .int .i64 0, .int .i64 0, .int .i64 0, .int .i64 0] 23)).alloc (.cells #[.int .i64 0, .int .i64 0, .int .i64 0, .int .i64 0, .int .i64 0, .int .i64 0, .int .i64 0, .int .i64 0] 23)) from heap_alloc_keep _ (heap_alloc_new w _))
  have hb0 : Below w.heap.size w ((w.alloc (.cells #[.int .i64 0, .int .i64 0, .int .i64 0, .int .i64 0, .int .i64 0, .int .i64 0, .int .i64 0, .int .i64 0] 23)).alloc (.cells #[.int .i64 0, .int .i64 0, .int .i64 0, .int .i64 0, .int .i64 0, .int .i64 0, .int .i64 0, .int .i64 0] 23)) := by (repeat (first | exact Below.refl _ _ | assumption | refine ext_alloc ?_ _ | refine below_drewN ?_ _ | refine ext_drew ?_ | (refine below_tr ?_ (by assumption))))
  clear hL
  go_enter Tryz.func48, Tryz.ntmps48
  have HQ1 := fun W => Lib.hid (numbers_ref s (ByteArray.mk #[103, 114, 111, 117, 112, 115]) hs (by decide) 1 1 (Lib.hid rfl) (by decide) (by decide) W)
  go_wp2_with (go_at_call 81; (with_reducible refine (HQ1 _).out.mono ?_))
  rintro e w1 ⟨v6, r1, b1, rfl, hc1, hr1, hp⟩
  have hb1 : Below w.heap.size w w1 := below_tr hb0 hc1
  have HZ1 := Lib.hid (HZ0.out.mono hc1)
  have HE1 := Lib.hid (HE0.out.mono hc1)
  clear HQ1 HZ0 HE0 hb0
  obtain ⟨rfl, hp⟩ | ⟨rfl, hno⟩ := hp
  rotate_left
  · have HN := Lib.hid (HR1.out zeroJ 131 1 (badJ1 _ hno))
    clear hno hc1
    obtain ⟨d0, d0u⟩ := res_cells HE1.out 0 (by decide)
    obtain ⟨d1, d1u⟩ := res_cells HE1.out 1 (by decide)
    obtain ⟨d2, d2u⟩ := res_cells HE1.out 2 (by decide)
    obtain ⟨d3, d3u⟩ := res_cells HE1.out 3 (by decide)
    obtain ⟨d4, d4u⟩ := res_cells HE1.out 4 (by decide)
    obtain ⟨d5, d5u⟩ := res_cells HE1.out 5 (by decide)
    obtain ⟨d6, d6u⟩ := res_cells HE1.out 6 (by decide)
    obtain ⟨d7, d7u⟩ := res_cells HE1.out 7 (by decide)
    have z0 := (res_cells HZ1.out 0 (by decide)).1
    have z1 := (res_cells HZ1.out 1 (by decide)).1
    have z2 := (res_cells HZ1.out 2 (by decide)).1
    have z3 := (res_cells HZ1.out 3 (by decide)).1
    have z4 := (res_cells HZ1.out 4 (by decide)).1
    have z5 := (res_cells HZ1.out 5 (by decide)).1
    have z6 := (res_cells HZ1.out 6 (by decide)).1
    have z7 := (res_cells HZ1.out 7 (by decide)).1
    go_wp2_with fail
    refine bodyPost_ret (results_cell_tmp2_row rfl _ _ w.heap.size _ (jbCells zeroJ) (0, 0) (.struct fs) rfl (job_ret zeroJ HE1.out) hu rfl job_info) rfl ?_
    exact ⟨zeroJ, 131, 1, rfl, HN.out, by (repeat (with_reducible refine ext_setCell ?_ (Nat.le_refl _) _)); exact hb1⟩
  obtain ⟨ns, hl, hsp, hrow⟩ := hp
  obtain ⟨n1, rfl⟩ := List.length_eq_one_iff.1 hl
  obtain ⟨g6, c6, rfl, hn⟩ := nums_at hrow hl (by decide)
  have HA6_1 := Lib.hid hn
  have hwn1 : Wf .i64 n1 := (hsp.2 n1 (by simp)).1
  have HR2 := Lib.hid (show ∀ x g n, JobRun 2 r1.data.toList ⟨smallI n1, 0, 0, 0, 0, 0, 0, 0⟩ x g n → JobRun 1 L zeroJ x g n from fun x g n h => HR1.out x g n (stepJ1 hsp h))
  clear hl hsp hrow hn hc1 HR1
  have HQ2 := fun W => Lib.hid (numbers_ref r1 (ByteArray.mk #[119, 105, 110, 100, 111, 119]) hr1 (by decide) 2 2 (Lib.hid rfl) (by decide) (by decide) W)
  go_wp2_with (go_at_call 81; (with_reducible refine (HQ2 _).out.mono ?_))
  rintro e w2 ⟨v8, r2, b2, rfl, hc2, hr2, hp⟩
  have hb2 : Below w.heap.size w w2 := below_tr hb1 hc2
  have HZ2 := Lib.hid (HZ1.out.mono hc2)
  have HE2 := Lib.hid (HE1.out.mono hc2)
  have HA6_2 := Lib.hid (HA6_1.out.mono hc2)
  clear HQ2 HZ1 HE1 hb1 HA6_1
  obtain ⟨rfl, hp⟩ | ⟨rfl, hno⟩ := hp
  rotate_left
  · have HN := Lib.hid (HR2.out zeroJ 131 2 (badJ2 _ hno))
    clear hno hc2
    obtain ⟨d0, d0u⟩ := res_cells HE2.out 0 (by decide)
    obtain ⟨d1, d1u⟩ := res_cells HE2.out 1 (by decide)
    obtain ⟨d2, d2u⟩ := res_cells HE2.out 2 (by decide)
    obtain ⟨d3, d3u⟩ := res_cells HE2.out 3 (by decide)
    obtain ⟨d4, d4u⟩ := res_cells HE2.out 4 (by decide)
    obtain ⟨d5, d5u⟩ := res_cells HE2.out 5 (by decide)
    obtain ⟨d6, d6u⟩ := res_cells HE2.out 6 (by decide)
    obtain ⟨d7, d7u⟩ := res_cells HE2.out 7 (by decide)
    have z0 := (res_cells HZ2.out 0 (by decide)).1
    have z1 := (res_cells HZ2.out 1 (by decide)).1
    have z2 := (res_cells HZ2.out 2 (by decide)).1
    have z3 := (res_cells HZ2.out 3 (by decide)).1
    have z4 := (res_cells HZ2.out 4 (by decide)).1
    have z5 := (res_cells HZ2.out 5 (by decide)).1
    have z6 := (res_cells HZ2.out 6 (by decide)).1
    have z7 := (res_cells HZ2.out 7 (by decide)).1
    go_wp2_with fail
    refine bodyPost_ret (results_cell_tmp2_row rfl _ _ w.heap.size _ (jbCells zeroJ) (0, 0) (.struct fs) rfl (job_ret zeroJ HE2.out) hu rfl job_info) rfl ?_
    exact ⟨zeroJ, 131, 2, rfl, HN.out, by (repeat (with_reducible refine ext_setCell ?_ (Nat.le_refl _) _)); exact hb2⟩
  obtain ⟨ns, hl, hsp, hrow⟩ := hp
  obtain ⟨n2, n3, rfl⟩ := len_two hl
  obtain ⟨g8, c8, rfl, hn⟩ := nums_at hrow hl (by decide)
  have HA8_2 := Lib.hid hn
  have hwn2 : Wf .i64 n2 := (hsp.2 n2 (by simp)).1
  have hwn3 : Wf .i64 n3 := (hsp.2 n3 (by simp)).1
  have HR3 := Lib.hid (show ∀ x g n, JobRun 3 r2.data.toList ⟨smallI n1, n2, n3, 0, 0, 0, 0, 0⟩ x g n → JobRun 1 L zeroJ x g n from fun x g n h => HR2.out x g n (stepJ2 hsp h))
  clear hl hsp hrow hn hc2 HR2
  have HQ3 := fun W => Lib.hid (fold_line r2 hr2 W)
  go_wp2_with (go_at_call 82; (with_reducible refine (HQ3 _).out.mono ?_))
  rintro e w3 ⟨f, r3, b3, rfl, hc3, hr3, hp⟩
  have hb3 : Below w.heap.size w w3 := below_tr hb2 hc3
  have HZ3 := Lib.hid (HZ2.out.mono hc3)
  have HE3 := Lib.hid (HE2.out.mono hc3)
  have HA6_3 := Lib.hid (HA6_2.out.mono hc3)
  have HA8_3 := Lib.hid (HA8_2.out.mono hc3)
  clear HQ3 HZ2 HE2 hb2 HA6_2 HA8_2
  obtain ⟨rfl, hp⟩ | ⟨rfl, hno⟩ := hp
  rotate_left
  · have HN := Lib.hid (HR3.out zeroJ 131 3 (badJ3 _ hno))
    clear hno hc3
    obtain ⟨d0, d0u⟩ := res_cells HE3.out 0 (by decide)
    obtain ⟨d1, d1u⟩ := res_cells HE3.out 1 (by decide)
    obtain ⟨d2, d2u⟩ := res_cells HE3.out 2 (by decide)
    obtain ⟨d3, d3u⟩ := res_cells HE3.out 3 (by decide)
    obtain ⟨d4, d4u⟩ := res_cells HE3.out 4 (by decide)
    obtain ⟨d5, d5u⟩ := res_cells HE3.out 5 (by decide)
    obtain ⟨d6, d6u⟩ := res_cells HE3.out 6 (by decide)
    obtain ⟨d7, d7u⟩ := res_cells HE3.out 7 (by decide)
    have z0 := (res_cells HZ3.out 0 (by decide)).1
    have z1 := (res_cells HZ3.out 1 (by decide)).1
    have z2 := (res_cells HZ3.out 2 (by decide)).1
    have z3 := (res_cells HZ3.out 3 (by decide)).1
    have z4 := (res_cells HZ3.out 4 (by decide)).1
    have z5 := (res_cells HZ3.out 5 (by decide)).1
    have z6 := (res_cells HZ3.out 6 (by decide)).1
    have z7 := (res_cells HZ3.out 7 (by decide)).1
    go_wp2_with fail
    refine bodyPost_ret (results_cell_tmp2_row rfl _ _ w.heap.size _ (jbCells zeroJ) (0, 0) (.struct fs) rfl (job_ret zeroJ HE3.out) hu rfl job_info) rfl ?_
    exact ⟨zeroJ, 131, 3, rfl, HN.out, by (repeat (with_reducible refine ext_setCell ?_ (Nat.le_refl _) _)); exact hb3⟩
  have HR4 := Lib.hid (show ∀ x g n, JobRun 4 r3.data.toList ⟨smallI n1, n2, n3, f, 0, 0, 0, 0⟩ x g n → JobRun 1 L zeroJ x g n from fun x g n h => HR3.out x g n (stepJ3 hp h))
  clear hp hc3 HR3
  have HQ4 := fun W => Lib.hid (numbers_ref r3 (ByteArray.mk #[108, 111, 111, 112]) hr3 (by decide) 2 2 (Lib.hid rfl) (by decide) (by decide) W)
  go_wp2_with (go_at_call 81; (with_reducible refine (HQ4 _).out.mono ?_))
  rintro e w4 ⟨v10, r4, b4, rfl, hc4, hr4, hp⟩
  have hb4 : Below w.heap.size w w4 := below_tr hb3 hc4
  have HZ4 := Lib.hid (HZ3.out.mono hc4)
  have HE4 := Lib.hid (HE3.out.mono hc4)
  have HA6_4 := Lib.hid (HA6_3.out.mono hc4)
  have HA8_4 := Lib.hid (HA8_3.out.mono hc4)
  clear HQ4 HZ3 HE3 hb3 HA6_3 HA8_3
  obtain ⟨rfl, hp⟩ | ⟨rfl, hno⟩ := hp
  rotate_left
  · have HN := Lib.hid (HR4.out zeroJ 131 4 (badJ4 _ hno))
    clear hno hc4
    obtain ⟨d0, d0u⟩ := res_cells HE4.out 0 (by decide)
    obtain ⟨d1, d1u⟩ := res_cells HE4.out 1 (by decide)
    obtain ⟨d2, d2u⟩ := res_cells HE4.out 2 (by decide)
    obtain ⟨d3, d3u⟩ := res_cells HE4.out 3 (by decide)
    obtain ⟨d4, d4u⟩ := res_cells HE4.out 4 (by decide)
    obtain ⟨d5, d5u⟩ := res_cells HE4.out 5 (by decide)
    obtain ⟨d6, d6u⟩ := res_cells HE4.out 6 (by decide)
    obtain ⟨d7, d7u⟩ := res_cells HE4.out 7 (by decide)
    have z0 := (res_cells HZ4.out 0 (by decide)).1
    have z1 := (res_cells HZ4.out 1 (by decide)).1
    have z2 := (res_cells HZ4.out 2 (by decide)).1
    have z3 := (res_cells HZ4.out 3 (by decide)).1
    have z4 := (res_cells HZ4.out 4 (by decide)).1
    have z5 := (res_cells HZ4.out 5 (by decide)).1
    have z6 := (res_cells HZ4.out 6 (by decide)).1
    have z7 := (res_cells HZ4.out 7 (by decide)).1
    go_wp2_with fail
    refine bodyPost_ret (results_cell_tmp2_row rfl _ _ w.heap.size _ (jbCells zeroJ) (0, 0) (.struct fs) rfl (job_ret zeroJ HE4.out) hu rfl job_info) rfl ?_
    exact ⟨zeroJ, 131, 4, rfl, HN.out, by (repeat (with_reducible refine ext_setCell ?_ (Nat.le_refl _) _)); exact hb4⟩
  obtain ⟨ns, hl, hsp, hrow⟩ := hp
  obtain ⟨n4, n5, rfl⟩ := len_two hl
  obtain ⟨g10, c10, rfl, hn⟩ := nums_at hrow hl (by decide)
  have HA10_4 := Lib.hid hn
  have hwn4 : Wf .i64 n4 := (hsp.2 n4 (by simp)).1
  have hwn5 : Wf .i64 n5 := (hsp.2 n5 (by simp)).1
  have HR5 := Lib.hid (show ∀ x g n, JobRun 5 r4.data.toList ⟨smallI n1, n2, n3, f, smallI n5, n4, 0, 0⟩ x g n → JobRun 1 L zeroJ x g n from fun x g n h => HR4.out x g n (stepJ4 hsp h))
  clear hl hsp hrow hn hc4 HR4
  have HQ5 := fun W => Lib.hid (numbers_ref r4 (ByteArray.mk #[100, 101, 108, 97, 121]) hr4 (by decide) 1 1 (Lib.hid rfl) (by decide) (by decide) W)
  go_wp2_with (go_at_call 81; (with_reducible refine (HQ5 _).out.mono ?_))
  rintro e w5 ⟨v11, r5, b5, rfl, hc5, hr5, hp⟩
  have hb5 : Below w.heap.size w w5 := below_tr hb4 hc5
  have HZ5 := Lib.hid (HZ4.out.mono hc5)
  have HE5 := Lib.hid (HE4.out.mono hc5)
  have HA6_5 := Lib.hid (HA6_4.out.mono hc5)
  have HA8_5 := Lib.hid (HA8_4.out.mono hc5)
  have HA10_5 := Lib.hid (HA10_4.out.mono hc5)
  clear HQ5 HZ4 HE4 hb4 HA6_4 HA8_4 HA10_4
  obtain ⟨rfl, hp⟩ | ⟨rfl, hno⟩ := hp
  rotate_left
  · have HN := Lib.hid (HR5.out zeroJ 131 5 (badJ5 _ hno))
    clear hno hc5
    obtain ⟨d0, d0u⟩ := res_cells HE5.out 0 (by decide)
    obtain ⟨d1, d1u⟩ := res_cells HE5.out 1 (by decide)
    obtain ⟨d2, d2u⟩ := res_cells HE5.out 2 (by decide)
    obtain ⟨d3, d3u⟩ := res_cells HE5.out 3 (by decide)
    obtain ⟨d4, d4u⟩ := res_cells HE5.out 4 (by decide)
    obtain ⟨d5, d5u⟩ := res_cells HE5.out 5 (by decide)
    obtain ⟨d6, d6u⟩ := res_cells HE5.out 6 (by decide)
    obtain ⟨d7, d7u⟩ := res_cells HE5.out 7 (by decide)
    have z0 := (res_cells HZ5.out 0 (by decide)).1
    have z1 := (res_cells HZ5.out 1 (by decide)).1
    have z2 := (res_cells HZ5.out 2 (by decide)).1
    have z3 := (res_cells HZ5.out 3 (by decide)).1
    have z4 := (res_cells HZ5.out 4 (by decide)).1
    have z5 := (res_cells HZ5.out 5 (by decide)).1
    have z6 := (res_cells HZ5.out 6 (by decide)).1
    have z7 := (res_cells HZ5.out 7 (by decide)).1
    go_wp2_with fail
    refine bodyPost_ret (results_cell_tmp2_row rfl _ _ w.heap.size _ (jbCells zeroJ) (0, 0) (.struct fs) rfl (job_ret zeroJ HE5.out) hu rfl job_info) rfl ?_
    exact ⟨zeroJ, 131, 5, rfl, HN.out, by (repeat (with_reducible refine ext_setCell ?_ (Nat.le_refl _) _)); exact hb5⟩
  obtain ⟨ns, hl, hsp, hrow⟩ := hp
  obtain ⟨n6, rfl⟩ := List.length_eq_one_iff.1 hl
  obtain ⟨g11, c11, rfl, hn⟩ := nums_at hrow hl (by decide)
  have HA11_5 := Lib.hid hn
  have hwn6 : Wf .i64 n6 := (hsp.2 n6 (by simp)).1
  have HR6 := Lib.hid (show ∀ x g n, JobRun 6 r5.data.toList ⟨smallI n1, n2, n3, f, smallI n5, n4, n6, 0⟩ x g n → JobRun 1 L zeroJ x g n from fun x g n h => HR5.out x g n (stepJ5 hsp h))
  clear hl hsp hrow hn hc5 HR5
  have HQ6 := fun W => Lib.hid (numbers_ref r5 (ByteArray.mk #[105, 100, 108, 101]) hr5 (by decide) 1 1 (Lib.hid rfl) (by decide) (by decide) W)
  go_wp2_with (go_at_call 81; (with_reducible refine (HQ6 _).out.mono ?_))
  rintro e w6 ⟨v12, r6, b6, rfl, hc6, hr6, hp⟩
  have hb6 : Below w.heap.size w w6 := below_tr hb5 hc6
  have HZ6 := Lib.hid (HZ5.out.mono hc6)
  have HE6 := Lib.hid (HE5.out.mono hc6)
  have HA6_6 := Lib.hid (HA6_5.out.mono hc6)
  have HA8_6 := Lib.hid (HA8_5.out.mono hc6)
  have HA10_6 := Lib.hid (HA10_5.out.mono hc6)
  have HA11_6 := Lib.hid (HA11_5.out.mono hc6)
  clear HQ6 HZ5 HE5 hb5 HA6_5 HA8_5 HA10_5 HA11_5
  obtain ⟨rfl, hp⟩ | ⟨rfl, hno⟩ := hp
  rotate_left
  · have HN := Lib.hid (HR6.out zeroJ 131 6 (badJ6 _ hno))
    clear hno hc6
    obtain ⟨d0, d0u⟩ := res_cells HE6.out 0 (by decide)
    obtain ⟨d1, d1u⟩ := res_cells HE6.out 1 (by decide)
    obtain ⟨d2, d2u⟩ := res_cells HE6.out 2 (by decide)
    obtain ⟨d3, d3u⟩ := res_cells HE6.out 3 (by decide)
    obtain ⟨d4, d4u⟩ := res_cells HE6.out 4 (by decide)
    obtain ⟨d5, d5u⟩ := res_cells HE6.out 5 (by decide)
    obtain ⟨d6, d6u⟩ := res_cells HE6.out 6 (by decide)
    obtain ⟨d7, d7u⟩ := res_cells HE6.out 7 (by decide)
    have z0 := (res_cells HZ6.out 0 (by decide)).1
    have z1 := (res_cells HZ6.out 1 (by decide)).1
    have z2 := (res_cells HZ6.out 2 (by decide)).1
    have z3 := (res_cells HZ6.out 3 (by decide)).1
    have z4 := (res_cells HZ6.out 4 (by decide)).1
    have z5 := (res_cells HZ6.out 5 (by decide)).1
    have z6 := (res_cells HZ6.out 6 (by decide)).1
    have z7 := (res_cells HZ6.out 7 (by decide)).1
    go_wp2_with fail
    refine bodyPost_ret (results_cell_tmp2_row rfl _ _ w.heap.size _ (jbCells zeroJ) (0, 0) (.struct fs) rfl (job_ret zeroJ HE6.out) hu rfl job_info) rfl ?_
    exact ⟨zeroJ, 131, 6, rfl, HN.out, by (repeat (with_reducible refine ext_setCell ?_ (Nat.le_refl _) _)); exact hb6⟩
  obtain ⟨ns, hl, hsp, hrow⟩ := hp
  obtain ⟨n7, rfl⟩ := List.length_eq_one_iff.1 hl
  obtain ⟨g12, c12, rfl, hn⟩ := nums_at hrow hl (by decide)
  have HA12_6 := Lib.hid hn
  have hwn7 : Wf .i64 n7 := (hsp.2 n7 (by simp)).1
  have HR7 := Lib.hid (show ∀ x g n, JobRun 7 r6.data.toList ⟨smallI n1, n2, n3, f, smallI n5, n4, n6, smallI n7⟩ x g n → JobRun 1 L zeroJ x g n from fun x g n h => HR6.out x g n (stepJ6 hsp h))
  clear hl hsp hrow hn hc6 HR6
  by_cases h0 : r6.data.toList = []
  rotate_left
  · have he : (r6.toList == []) = false := by rw [ByteArray.toList_eq, beq_eq_false_iff_ne]; exact h0
    have he2 : r6.toList.isEmpty = false := by rw [ByteArray.toList_eq, List.isEmpty_eq_false_iff]; exact h0
    have HN := Lib.hid (HR7.out zeroJ 131 7 (JobRun.more _ _ h0))
    clear h0
    obtain ⟨d0, d0u⟩ := res_cells HE6.out 0 (by decide)
    obtain ⟨d1, d1u⟩ := res_cells HE6.out 1 (by decide)
    obtain ⟨d2, d2u⟩ := res_cells HE6.out 2 (by decide)
    obtain ⟨d3, d3u⟩ := res_cells HE6.out 3 (by decide)
    obtain ⟨d4, d4u⟩ := res_cells HE6.out 4 (by decide)
    obtain ⟨d5, d5u⟩ := res_cells HE6.out 5 (by decide)
    obtain ⟨d6, d6u⟩ := res_cells HE6.out 6 (by decide)
    obtain ⟨d7, d7u⟩ := res_cells HE6.out 7 (by decide)
    have z0 := (res_cells HZ6.out 0 (by decide)).1
    have z1 := (res_cells HZ6.out 1 (by decide)).1
    have z2 := (res_cells HZ6.out 2 (by decide)).1
    have z3 := (res_cells HZ6.out 3 (by decide)).1
    have z4 := (res_cells HZ6.out 4 (by decide)).1
    have z5 := (res_cells HZ6.out 5 (by decide)).1
    have z6 := (res_cells HZ6.out 6 (by decide)).1
    have z7 := (res_cells HZ6.out 7 (by decide)).1
    go_wp2_with fail
    refine bodyPost_ret (results_cell_tmp2_row rfl _ _ w.heap.size _ (jbCells zeroJ) (0, 0) (.struct fs) rfl (job_ret zeroJ HE6.out) hu rfl job_info) rfl ?_
    exact ⟨zeroJ, 131, 7, rfl, HN.out, by (repeat (with_reducible refine ext_setCell ?_ (Nat.le_refl _) _)); exact hb6⟩
  have he : (r6.toList == []) = true := by rw [ByteArray.toList_eq, h0]; rfl
  have he2 : r6.toList.isEmpty = true := by rw [ByteArray.toList_eq, h0]; rfl
  have HT := Lib.hid h0
  obtain ⟨s1, hs1⟩ : ∃ s1, s1 = smallI n1 := ⟨_, rfl⟩
  obtain ⟨s5, hs5⟩ : ∃ s5, s5 = smallI n5 := ⟨_, rfl⟩
  obtain ⟨s7, hs7⟩ : ∃ s7, s7 = smallI n7 := ⟨_, rfl⟩
  have HS1 := fun W => Lib.hid (small_ref n1 hwn1 W)
  have HS5 := fun W => Lib.hid (small_ref n5 hwn5 W)
  have HS7 := fun W => Lib.hid (small_ref n7 hwn7 W)
  rw [← hs1] at HS1 HR7
  rw [← hs5] at HS5 HR7
  rw [← hs7] at HS7 HR7
  clear hs1 hs5 hs7
  have HJ := fun W => Lib.hid (job_ref ⟨s1, n2, n3, f, s5, n4, n6, s7⟩ W)
  clear h0
  go_wp2_with fail
  refine wp_region_tail (by kernel_rfl) 27 [6, 8, 9, 10, 11, 12] (by kernel_rfl) (fun a b => Below a.heap.size a b) (fun a b c h k => below_tr h k) (ext_drew (Below.refl _ _)) (pjSlot g6 c6 g8 c8 g10 c10 g11 c11 g12 c12 w6.heap.size n1 n2 n3 f n4 n5 n6 n7 s1 s5 s7) (fun t W W' v h hb => pjSlot_mono g6 c6 g8 c8 g10 c10 g11 c11 g12 c12 w6.heap.size n1 n2 n3 f n4 n5 n6 n7 s1 s5 s7 t W W' v h hb) ?_ ?_ ?_
  · intro t ht W hW
    simp only [List.mem_cons, List.mem_nil_iff, or_false] at ht
    rcases ht with rfl | rfl | rfl | rfl | rfl | rfl <;> exact rfl
  · refine ⟨?_, ?_, ?_, ?_, ?_, ?_, ?_, ?_, ?_, ?_, ?_, ?_, ?_, ?_, ?_, ?_, ?_, ?_, ?_, ?_, ?_, ?_, ?_, ?_, ?_, ?_, ?_, trivial⟩
    · intro a W hG hk K hK
      have h6 : a.tmps.getD 6 undef = .slice (some ⟨g6, 0, none⟩) 1 c6 := hk 6 (List.mem_of_elem_eq_true (by kernel_rfl))
      clear hk
      simp only [Array.getD_eq_getD_getElem?] at h6 ⊢
      go_simp
      exact hK _ _ (by rintro d ⟨⟩; rfl) (Below.refl _ _)
    · intro a W hG hk K hK
      have h72 : a.tmps.getD 72 undef = .slice (some ⟨g6, 0, none⟩) 1 c6 := hk 72 (List.mem_of_elem_eq_true (by kernel_rfl))
      clear hk
      simp only [Array.getD_eq_getD_getElem?] at h72 ⊢
      go_simp
      exact hK _ _ (by rintro d ⟨⟩; rfl) (Below.refl _ _)
    · intro a W hG hk K hK
      have h73 : a.tmps.getD 73 undef = .pointer (some ⟨g6, 0, none⟩) := hk 73 (List.mem_of_elem_eq_true (by kernel_rfl))
      clear hk
      have hcw : W.cell? ⟨g6, 0, none⟩ = some (.int .i64 n1) := (HA6_6.out.mono hG).2 0 _ rfl
      simp only [Array.getD_eq_getD_getElem?] at h73 ⊢
      go_simp
      exact hK _ _ (by rintro d ⟨⟩; rfl) (Below.refl _ _)
    · intro a W hG hk K hK
      have h74 : a.tmps.getD 74 undef = .int .i64 n1 := hk 74 (List.mem_of_elem_eq_true (by kernel_rfl))
      clear hk
      simp only [Array.getD_eq_getD_getElem?] at h74 ⊢
      go_simp
      refine (HS1 _).out.mono ?_
      rintro e w1 ⟨rfl, rfl⟩
      exact hK _ _ (by rintro d ⟨⟩; rfl) (Below.refl _ _)
    · intro a W hG hk K hK
      have h8 : a.tmps.getD 8 undef = .slice (some ⟨g8, 0, none⟩) 2 c8 := hk 8 (List.mem_of_elem_eq_true (by kernel_rfl))
      clear hk
      simp only [Array.getD_eq_getD_getElem?] at h8 ⊢
      go_simp
      exact hK _ _ (by rintro d ⟨⟩; rfl) (Below.refl _ _)
    · intro a W hG hk K hK
      have h76 : a.tmps.getD 76 undef = .slice (some ⟨g8, 0, none⟩) 2 c8 := hk 76 (List.mem_of_elem_eq_true (by kernel_rfl))
      clear hk
      simp only [Array.getD_eq_getD_getElem?] at h76 ⊢
      go_simp
      exact hK _ _ (by rintro d ⟨⟩; rfl) (Below.refl _ _)
    · intro a W hG hk K hK
      have h77 : a.tmps.getD 77 undef = .pointer (some ⟨g8, 0, none⟩) := hk 77 (List.mem_of_elem_eq_true (by kernel_rfl))
      clear hk
      have hcw : W.cell? ⟨g8, 0, none⟩ = some (.int .i64 n2) := (HA8_6.out.mono hG).2 0 _ rfl
      simp only [Array.getD_eq_getD_getElem?] at h77 ⊢
      go_simp
      exact hK _ _ (by rintro d ⟨⟩; rfl) (Below.refl _ _)
    · intro a W hG hk K hK
      have h8 : a.tmps.getD 8 undef = .slice (some ⟨g8, 0, none⟩) 2 c8 := hk 8 (List.mem_of_elem_eq_true (by kernel_rfl))
      clear hk
      simp only [Array.getD_eq_getD_getElem?] at h8 ⊢
      go_simp
      exact hK _ _ (by rintro d ⟨⟩; rfl) (Below.refl _ _)
    · intro a W hG hk K hK
      have h79 : a.tmps.getD 79 undef = .slice (some ⟨g8, 0, none⟩) 2 c8 := hk 79 (List.mem_of_elem_eq_true (by kernel_rfl))
      clear hk
      simp only [Array.getD_eq_getD_getElem?] at h79 ⊢
      go_simp
      exact hK _ _ (by rintro d ⟨⟩; rfl) (Below.refl _ _)
    · intro a W hG hk K hK
      have h80 : a.tmps.getD 80 undef = .pointer (some ⟨g8, 1, none⟩) := hk 80 (List.mem_of_elem_eq_true (by kernel_rfl))
      clear hk
      have hcw : W.cell? ⟨g8, 1, none⟩ = some (.int .i64 n3) := (HA8_6.out.mono hG).2 1 _ rfl
      simp only [Array.getD_eq_getD_getElem?] at h80 ⊢
      go_simp
      exact hK _ _ (by rintro d ⟨⟩; rfl) (Below.refl _ _)
    · intro a W hG hk K hK
      have h9 : a.tmps.getD 9 undef = .int .i64 f := hk 9 (List.mem_of_elem_eq_true (by kernel_rfl))
      clear hk
      simp only [Array.getD_eq_getD_getElem?] at h9 ⊢
      go_simp
      exact hK _ _ (by rintro d ⟨⟩; rfl) (Below.refl _ _)
    · intro a W hG hk K hK
      have h10 : a.tmps.getD 10 undef = .slice (some ⟨g10, 0, none⟩) 2 c10 := hk 10 (List.mem_of_elem_eq_true (by kernel_rfl))
      clear hk
      simp only [Array.getD_eq_getD_getElem?] at h10 ⊢
      go_simp
      exact hK _ _ (by rintro d ⟨⟩; rfl) (Below.refl _ _)
    · intro a W hG hk K hK
      have h83 : a.tmps.getD 83 undef = .slice (some ⟨g10, 0, none⟩) 2 c10 := hk 83 (List.mem_of_elem_eq_true (by kernel_rfl))
      clear hk
      simp only [Array.getD_eq_getD_getElem?] at h83 ⊢
      go_simp
      exact hK _ _ (by rintro d ⟨⟩; rfl) (Below.refl _ _)
    · intro a W hG hk K hK
      have h84 : a.tmps.getD 84 undef = .pointer (some ⟨g10, 0, none⟩) := hk 84 (List.mem_of_elem_eq_true (by kernel_rfl))
      clear hk
      have hcw : W.cell? ⟨g10, 0, none⟩ = some (.int .i64 n4) := (HA10_6.out.mono hG).2 0 _ rfl
      simp only [Array.getD_eq_getD_getElem?] at h84 ⊢
      go_simp
      exact hK _ _ (by rintro d ⟨⟩; rfl) (Below.refl _ _)
    · intro a W hG hk K hK
      have h10 : a.tmps.getD 10 undef = .slice (some ⟨g10, 0, none⟩) 2 c10 := hk 10 (List.mem_of_elem_eq_true (by kernel_rfl))
      clear hk
      simp only [Array.getD_eq_getD_getElem?] at h10 ⊢
      go_simp
      exact hK _ _ (by rintro d ⟨⟩; rfl) (Below.refl _ _)
    · intro a W hG hk K hK
      have h86 : a.tmps.getD 86 undef = .slice (some ⟨g10, 0, none⟩) 2 c10 := hk 86 (List.mem_of_elem_eq_true (by kernel_rfl))
      clear hk
      simp only [Array.getD_eq_getD_getElem?] at h86 ⊢
      go_simp
      exact hK _ _ (by rintro d ⟨⟩; rfl) (Below.refl _ _)
    · intro a W hG hk K hK
      have h87 : a.tmps.getD 87 undef = .pointer (some ⟨g10, 1, none⟩) := hk 87 (List.mem_of_elem_eq_true (by kernel_rfl))
      clear hk
      have hcw : W.cell? ⟨g10, 1, none⟩ = some (.int .i64 n5) := (HA10_6.out.mono hG).2 1 _ rfl
      simp only [Array.getD_eq_getD_getElem?] at h87 ⊢
      go_simp
      exact hK _ _ (by rintro d ⟨⟩; rfl) (Below.refl _ _)
    · intro a W hG hk K hK
      have h88 : a.tmps.getD 88 undef = .int .i64 n5 := hk 88 (List.mem_of_elem_eq_true (by kernel_rfl))
      clear hk
      simp only [Array.getD_eq_getD_getElem?] at h88 ⊢
      go_simp
      refine (HS5 _).out.mono ?_
      rintro e w1 ⟨rfl, rfl⟩
      exact hK _ _ (by rintro d ⟨⟩; rfl) (Below.refl _ _)
    · intro a W hG hk K hK
      have h11 : a.tmps.getD 11 undef = .slice (some ⟨g11, 0, none⟩) 1 c11 := hk 11 (List.mem_of_elem_eq_true (by kernel_rfl))
      clear hk
      simp only [Array.getD_eq_getD_getElem?] at h11 ⊢
      go_simp
      exact hK _ _ (by rintro d ⟨⟩; rfl) (Below.refl _ _)
    · intro a W hG hk K hK
      have h90 : a.tmps.getD 90 undef = .slice (some ⟨g11, 0, none⟩) 1 c11 := hk 90 (List.mem_of_elem_eq_true (by kernel_rfl))
      clear hk
      simp only [Array.getD_eq_getD_getElem?] at h90 ⊢
      go_simp
      exact hK _ _ (by rintro d ⟨⟩; rfl) (Below.refl _ _)
    · intro a W hG hk K hK
      have h91 : a.tmps.getD 91 undef = .pointer (some ⟨g11, 0, none⟩) := hk 91 (List.mem_of_elem_eq_true (by kernel_rfl))
      clear hk
      have hcw : W.cell? ⟨g11, 0, none⟩ = some (.int .i64 n6) := (HA11_6.out.mono hG).2 0 _ rfl
      simp only [Array.getD_eq_getD_getElem?] at h91 ⊢
      go_simp
      exact hK _ _ (by rintro d ⟨⟩; rfl) (Below.refl _ _)
    · intro a W hG hk K hK
      have h12 : a.tmps.getD 12 undef = .slice (some ⟨g12, 0, none⟩) 1 c12 := hk 12 (List.mem_of_elem_eq_true (by kernel_rfl))
      clear hk
      simp only [Array.getD_eq_getD_getElem?] at h12 ⊢
      go_simp
      exact hK _ _ (by rintro d ⟨⟩; rfl) (Below.refl _ _)
    · intro a W hG hk K hK
      have h93 : a.tmps.getD 93 undef = .slice (some ⟨g12, 0, none⟩) 1 c12 := hk 93 (List.mem_of_elem_eq_true (by kernel_rfl))
      clear hk
      simp only [Array.getD_eq_getD_getElem?] at h93 ⊢
      go_simp
      exact hK _ _ (by rintro d ⟨⟩; rfl) (Below.refl _ _)
    · intro a W hG hk K hK
      have h94 : a.tmps.getD 94 undef = .pointer (some ⟨g12, 0, none⟩) := hk 94 (List.mem_of_elem_eq_true (by kernel_rfl))
      clear hk
      have hcw : W.cell? ⟨g12, 0, none⟩ = some (.int .i64 n7) := (HA12_6.out.mono hG).2 0 _ rfl
      simp only [Array.getD_eq_getD_getElem?] at h94 ⊢
      go_simp
      exact hK _ _ (by rintro d ⟨⟩; rfl) (Below.refl _ _)
    · intro a W hG hk K hK
      have h95 : a.tmps.getD 95 undef = .int .i64 n7 := hk 95 (List.mem_of_elem_eq_true (by kernel_rfl))
      clear hk
      simp only [Array.getD_eq_getD_getElem?] at h95 ⊢
      go_simp
      refine (HS7 _).out.mono ?_
      rintro e w1 ⟨rfl, rfl⟩
      exact hK _ _ (by rintro d ⟨⟩; rfl) (Below.refl _ _)
    · intro a W hG hk K hK
      have h75 : a.tmps.getD 75 undef = .int .i64 s1 := hk 75 (List.mem_of_elem_eq_true (by kernel_rfl))
      have h78 : a.tmps.getD 78 undef = .int .i64 n2 := hk 78 (List.mem_of_elem_eq_true (by kernel_rfl))
      have h81 : a.tmps.getD 81 undef = .int .i64 n3 := hk 81 (List.mem_of_elem_eq_true (by kernel_rfl))
      have h82 : a.tmps.getD 82 undef = .int .i64 f := hk 82 (List.mem_of_elem_eq_true (by kernel_rfl))
      have h85 : a.tmps.getD 85 undef = .int .i64 n4 := hk 85 (List.mem_of_elem_eq_true (by kernel_rfl))
      have h89 : a.tmps.getD 89 undef = .int .i64 s5 := hk 89 (List.mem_of_elem_eq_true (by kernel_rfl))
      have h92 : a.tmps.getD 92 undef = .int .i64 n6 := hk 92 (List.mem_of_elem_eq_true (by kernel_rfl))
      have h96 : a.tmps.getD 96 undef = .int .i64 s7 := hk 96 (List.mem_of_elem_eq_true (by kernel_rfl))
      clear hk
      simp only [Array.getD_eq_getD_getElem?] at h75 h78 h81 h82 h85 h89 h92 h96 ⊢
      go_simp
      exact hK _ _ (by rintro d ⟨⟩; rfl) (Below.refl _ _)
    · intro a W hG hk K hK
      clear hk
      go_simp
      exact hK _ _ (by rintro d ⟨⟩; exact ⟨_, rfl, hG.size, heap_alloc_new W _⟩) ((Below.refl _ _).alloc (Nat.le_refl _) _)
  · intro a W hG hd hs hold hnew
    obtain ⟨p, h13, hpn, hres⟩ := hnew 13 26 (by kernel_rfl)
    obtain rfl := frame_puts [(72, .slice (some ⟨g6, 0, none⟩) 1 c6), (73, .pointer (some ⟨g6, 0, none⟩)), (74, .int .i64 n1), (75, .int .i64 s1), (76, .slice (some ⟨g8, 0, none⟩) 2 c8), (77, .pointer (some ⟨g8, 0, none⟩)), (78, .int .i64 n2), (79, .slice (some ⟨g8, 0, none⟩) 2 c8), (80, .pointer (some ⟨g8, 1, none⟩)), (81, .int .i64 n3), (82, .int .i64 f), (83, .slice (some ⟨g10, 0, none⟩) 2 c10), (84, .pointer (some ⟨g10, 0, none⟩)), (85, .int .i64 n4), (86, .slice (some ⟨g10, 0, none⟩) 2 c10), (87, .pointer (some ⟨g10, 1, none⟩)), (88, .int .i64 n5), (89, .int .i64 s5), (90, .slice (some ⟨g11, 0, none⟩) 1 c11), (91, .pointer (some ⟨g11, 0, none⟩)), (92, .int .i64 n6), (93, .slice (some ⟨g12, 0, none⟩) 1 c12), (94, .pointer (some ⟨g12, 0, none⟩)), (95, .int .i64 n7), (96, .int .i64 s7), (97, .agg #[.int .i64 s1, .int .i64 n2, .int .i64 n3, .int .i64 f, .int .i64 s5, .int .i64 n4, .int .i64 n6, .int .i64 s7]), (13, .pointer (some ⟨p, 0, none⟩))] hd hs hold (by kernel_rfl) ⟨hnew 72 0 (by kernel_rfl), hnew 73 1 (by kernel_rfl), hnew 74 2 (by kernel_rfl), hnew 75 3 (by kernel_rfl), hnew 76 4 (by kernel_rfl), hnew 77 5 (by kernel_rfl), hnew 78 6 (by kernel_rfl), hnew 79 7 (by kernel_rfl), hnew 80 8 (by kernel_rfl), hnew 81 9 (by kernel_rfl), hnew 82 10 (by kernel_rfl), hnew 83 11 (by kernel_rfl), hnew 84 12 (by kernel_rfl), hnew 85 13 (by kernel_rfl), hnew 86 14 (by kernel_rfl), hnew 87 15 (by kernel_rfl), hnew 88 16 (by kernel_rfl), hnew 89 17 (by kernel_rfl), hnew 90 18 (by kernel_rfl), hnew 91 19 (by kernel_rfl), hnew 92 20 (by kernel_rfl), hnew 93 21 (by kernel_rfl), hnew 94 22 (by kernel_rfl), hnew 95 23 (by kernel_rfl), hnew 96 24 (by kernel_rfl), hnew 97 25 (by kernel_rfl), h13, trivial⟩
    clear hold hnew hd hs h13
    simp only [puts, Act.put, List.setIfInBounds_toArray, List.set_cons_succ, List.set_cons_zero]
    have HP := Lib.hid hres
    obtain ⟨q0, q0u⟩ := res_cells HP.out 0 (by decide)
    obtain ⟨q1, q1u⟩ := res_cells HP.out 1 (by decide)
    obtain ⟨q2, q2u⟩ := res_cells HP.out 2 (by decide)
    obtain ⟨q3, q3u⟩ := res_cells HP.out 3 (by decide)
    obtain ⟨q4, q4u⟩ := res_cells HP.out 4 (by decide)
    obtain ⟨q5, q5u⟩ := res_cells HP.out 5 (by decide)
    obtain ⟨q6, q6u⟩ := res_cells HP.out 6 (by decide)
    obtain ⟨q7, q7u⟩ := res_cells HP.out 7 (by decide)
    have HE7 := Lib.hid (HE6.out.mono hG)
    have HZ7 := Lib.hid (HZ6.out.mono hG)
    have hb7 : Below w.heap.size w W := below_tr hb6 hG
    have hne : p ≠ w.heap.size := by have := (Array.getElem?_eq_some_iff.1 HE6.out).1; omega
    have hne1 : p ≠ w.heap.size + 1 := by have := (Array.getElem?_eq_some_iff.1 HZ6.out).1; omega
    have hwp : w.heap.size ≤ p := by have := hb6.size; omega
    have HW1 := Lib.hid (show ((((((((W.setCell ⟨p, 0, none⟩ (.int .i64 s1)).setCell ⟨p, 1, none⟩ (.int .i64 n2)).setCell ⟨p, 2, none⟩ (.int .i64 n3)).setCell ⟨p, 3, none⟩ (.int .i64 f)).setCell ⟨p, 4, none⟩ (.int .i64 s5)).setCell ⟨p, 5, none⟩ (.int .i64 n4)).setCell ⟨p, 6, none⟩ (.int .i64 n6)).setCell ⟨p, 7, none⟩ (.int .i64 s7)).heap[p]? = some (.cells (jbCells ⟨s1, n2, n3, f, s5, n4, n6, s7⟩) 23 (0, 0)) from st8_heap _ _ _ _ _ _ _ _ HP.out)
    have HE8 := Lib.hid (show ResJ w.heap.size ((((((((W.setCell ⟨p, 0, none⟩ (.int .i64 s1)).setCell ⟨p, 1, none⟩ (.int .i64 n2)).setCell ⟨p, 2, none⟩ (.int .i64 n3)).setCell ⟨p, 3, none⟩ (.int .i64 f)).setCell ⟨p, 4, none⟩ (.int .i64 s5)).setCell ⟨p, 5, none⟩ (.int .i64 n4)).setCell ⟨p, 6, none⟩ (.int .i64 n6)).setCell ⟨p, 7, none⟩ (.int .i64 s7)) from (heap_setCell_keep hne (heap_setCell_keep hne (heap_setCell_keep hne (heap_setCell_keep hne (heap_setCell_keep hne (heap_setCell_keep hne (heap_setCell_keep hne (heap_setCell_keep hne HE7.out)))))))))
    have HZ8 := Lib.hid (show ResJ (w.heap.size + 1) ((((((((W.setCell ⟨p, 0, none⟩ (.int .i64 s1)).setCell ⟨p, 1, none⟩ (.int .i64 n2)).setCell ⟨p, 2, none⟩ (.int .i64 n3)).setCell ⟨p, 3, none⟩ (.int .i64 f)).setCell ⟨p, 4, none⟩ (.int .i64 s5)).setCell ⟨p, 5, none⟩ (.int .i64 n4)).setCell ⟨p, 6, none⟩ (.int .i64 n6)).setCell ⟨p, 7, none⟩ (.int .i64 s7)) from (heap_setCell_keep hne1 (heap_setCell_keep hne1 (heap_setCell_keep hne1 (heap_setCell_keep hne1 (heap_setCell_keep hne1 (heap_setCell_keep hne1 (heap_setCell_keep hne1 (heap_setCell_keep hne1 HZ7.out)))))))))
    have hb8 : Below w.heap.size w ((((((((W.setCell ⟨p, 0, none⟩ (.int .i64 s1)).setCell ⟨p, 1, none⟩ (.int .i64 n2)).setCell ⟨p, 2, none⟩ (.int .i64 n3)).setCell ⟨p, 3, none⟩ (.int .i64 f)).setCell ⟨p, 4, none⟩ (.int .i64 s5)).setCell ⟨p, 5, none⟩ (.int .i64 n4)).setCell ⟨p, 6, none⟩ (.int .i64 n6)).setCell ⟨p, 7, none⟩ (.int .i64 s7)) := by (repeat (with_reducible refine ext_setCell ?_ hwp _)); exact hb7
    clear hG hb6 hb7 hres HE6 HZ6 HE7 HZ7
    show wpList _ _ _ [_] _ _
    go_wp2_with (go_at_call 84; (with_reducible refine (HJ _).out.mono ?_))
    rintro e w9 ⟨rfl, hc9⟩
    obtain ⟨BJ, hBJ⟩ : ∃ BJ, BJ = jobB ⟨s1, n2, n3, f, s5, n4, n6, s7⟩ := ⟨_, rfl⟩
    rw [← hBJ]
    have HBJ := Lib.hid hBJ
    have hb9 : Below w.heap.size w w9 := below_tr hb8 hc9
    have HE9 := Lib.hid (HE8.out.mono hc9)
    have HZ9 := Lib.hid (HZ8.out.mono hc9)
    have hw9 : w9.heap[p]? = some (.cells (jbCells ⟨s1, n2, n3, f, s5, n4, n6, s7⟩) 23 (0, 0)) := (hc9.block _ (Array.getElem?_eq_some_iff.1 HW1.out).1).trans HW1.out
    have y0 : w9.cell? ⟨p, 0, none⟩ = some (.int .i64 s1) := by rw [Lib.cell_of_heap hw9]; rfl
    have y1 : w9.cell? ⟨p, 1, none⟩ = some (.int .i64 n2) := by rw [Lib.cell_of_heap hw9]; rfl
    have y2 : w9.cell? ⟨p, 2, none⟩ = some (.int .i64 n3) := by rw [Lib.cell_of_heap hw9]; rfl
    have y3 : w9.cell? ⟨p, 3, none⟩ = some (.int .i64 f) := by rw [Lib.cell_of_heap hw9]; rfl
    have y4 : w9.cell? ⟨p, 4, none⟩ = some (.int .i64 s5) := by rw [Lib.cell_of_heap hw9]; rfl
    have y5 : w9.cell? ⟨p, 5, none⟩ = some (.int .i64 n4) := by rw [Lib.cell_of_heap hw9]; rfl
    have y6 : w9.cell? ⟨p, 6, none⟩ = some (.int .i64 n6) := by rw [Lib.cell_of_heap hw9]; rfl
    have y7 : w9.cell? ⟨p, 7, none⟩ = some (.int .i64 s7) := by rw [Lib.cell_of_heap hw9]; rfl
    clear hBJ hw9 hc9 HE8 HZ8 HW1 hb8 HP q0 q0u q1 q1u q2 q2u q3 q3u q4 q4u q5 q5u q6 q6u q7 q7u
    obtain ⟨d0, d0u⟩ := res_cells HE9.out 0 (by decide)
    obtain ⟨d1, d1u⟩ := res_cells HE9.out 1 (by decide)
    obtain ⟨d2, d2u⟩ := res_cells HE9.out 2 (by decide)
    obtain ⟨d3, d3u⟩ := res_cells HE9.out 3 (by decide)
    obtain ⟨d4, d4u⟩ := res_cells HE9.out 4 (by decide)
    obtain ⟨d5, d5u⟩ := res_cells HE9.out 5 (by decide)
    obtain ⟨d6, d6u⟩ := res_cells HE9.out 6 (by decide)
    obtain ⟨d7, d7u⟩ := res_cells HE9.out 7 (by decide)
    have z0 := (res_cells HZ9.out 0 (by decide)).1
    have z1 := (res_cells HZ9.out 1 (by decide)).1
    have z2 := (res_cells HZ9.out 2 (by decide)).1
    have z3 := (res_cells HZ9.out 3 (by decide)).1
    have z4 := (res_cells HZ9.out 4 (by decide)).1
    have z5 := (res_cells HZ9.out 5 (by decide)).1
    have z6 := (res_cells HZ9.out 6 (by decide)).1
    have z7 := (res_cells HZ9.out 7 (by decide)).1
    cases BJ
    · have HN := Lib.hid (HR7.out zeroJ 130 0 (by rw [HT.out]; exact JobRun.wrong _ HBJ.out.symm))
      go_wp2_with fail
      refine bodyPost_ret (results_cell_tmp2_row rfl _ _ w.heap.size _ (jbCells zeroJ) (0, 0) (.struct fs) rfl (job_ret zeroJ HE9.out) hu rfl job_info) rfl ?_
      exact ⟨zeroJ, 130, 0, rfl, HN.out, by (repeat (with_reducible refine ext_setCell ?_ (Nat.le_refl _) _)); exact hb9⟩
    · have HN := Lib.hid (HR7.out ⟨s1, n2, n3, f, s5, n4, n6, s7⟩ 0 0 (by rw [HT.out]; exact JobRun.done _ HBJ.out.symm))
      go_wp2_with fail
      refine bodyPost_ret (results_cell_tmp2_row rfl _ _ w.heap.size _ (jbCells ⟨s1, n2, n3, f, s5, n4, n6, s7⟩) (0, 0) (.struct fs) rfl (job_ret ⟨s1, n2, n3, f, s5, n4, n6, s7⟩ HE9.out) hu rfl job_info) rfl ?_
      exact ⟨⟨s1, n2, n3, f, s5, n4, n6, s7⟩, 0, 0, rfl, HN.out, by (repeat (with_reducible refine ext_setCell ?_ (Nat.le_refl _) _)); exact hb9⟩
end Go.Proofs.YtljbclkbmjjmdaaGreatDoor
