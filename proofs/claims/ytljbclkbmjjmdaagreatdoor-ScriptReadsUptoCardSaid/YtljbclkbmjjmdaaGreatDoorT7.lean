/- The walk of the plan's printing. -/
import Derived.Test.YtljbclkbmjjmdaaGreatDoorT6
namespace Go.Proofs.YtljbclkbmjjmdaaGreatDoor
open Go.RowKit Go.Shelf
theorem print_no (p : Pl) (hp : planB p = false) (vi va : Value) (w : World) (hi : Sl 1 rIn w vi p.inputs) (ha : Sl 3 rAc w va p.acts) :
    Calls Tryz.prog 10 #[.agg #[.int .i64 p.job.groups, .int .i64 p.job.size, .int .i64 p.job.slide, .int .i64 p.job.fold, .int .i64 p.job.fuel, .int .i64 p.job.limit, .int .i64 p.job.delay, .int .i64 p.job.idle, vi, .int .i64 p.workers, va]] w
      fun e w' => e = .returned (.tuple #[.string (ByteArray.mk #[]), .int .i64 240]) ∧ Below w.heap.size w w' := by
  have HR := fun W (hb : Below w.heap.size w W) => Lib.hid (plan_impl p vi va W (hi.mono rIn.mono hb) (ha.mono rAc.mono hb))
  have HP := Lib.hid hp
  clear hi ha hp
  go_enter Tryz.func10, Tryz.ntmps10
  go_wp2_with (go_at_call 11; refine (HR _ (by (repeat (first | exact Below.refl _ _ | assumption | refine ext_alloc ?_ _ | refine below_drewN ?_ _ | refine ext_drew ?_ | (refine below_tr ?_ (by assumption)))))).out.mono ?_; rintro r w1 ⟨rfl, hb1⟩; rw [HP.out])
  go_ret2
  exact ⟨rfl, by (repeat (first | exact Below.refl _ _ | assumption | refine ext_alloc ?_ _ | refine below_drewN ?_ _ | refine ext_drew ?_ | (refine below_tr ?_ (by assumption))))⟩
theorem fresh_pr (W : World) : PrAt W.heap.size W.heap.size [] (W.alloc (.cells #[.pointer none, .slice none 0 0] 68)) := by
  refine .inl ⟨Nat.le_refl _, .slice none 0 0, heap_alloc_new W _, ⟨rfl, .inl ⟨rfl, rfl⟩⟩, ?_⟩
  simp [Value.ownBlock]
theorem pr_as {b : Nat} {s : ByteArray} {l : List UInt8} {w : World} (h : PrAt b b ([] ++ s.data.toList) w) (e : bytesL s = l) : PrAt b b l w := by
  rw [List.nil_append] at h
  rw [← e]
  exact h
theorem pr_le {B b : Nat} {l : List UInt8} {w : World} (h : PrAt B b l w) : b ≤ w.heap.size := by
  obtain ⟨cs, h⟩ := PrAt.block h
  exact Nat.le_of_lt (Array.getElem?_eq_some_iff.1 h).1
set_option maxHeartbeats 1000000 in
set_option maxRecDepth 100000 in
theorem print_yes (p : Pl) (hp : planB p = true) (hw : PlWf p) (vi va : Value) (w : World) (hi : Sl 1 rIn w vi p.inputs) (ha : Sl 3 rAc w va p.acts) (ht : Tab w) :
    Calls Tryz.prog 10 #[.agg #[.int .i64 p.job.groups, .int .i64 p.job.size, .int .i64 p.job.slide, .int .i64 p.job.fold, .int .i64 p.job.fuel, .int .i64 p.job.limit, .int .i64 p.job.delay, .int .i64 p.job.idle, vi, .int .i64 p.workers, va]] w
      fun e w' => e = .returned (.tuple #[.string ⟨(planL p).toArray⟩, .int .i64 0]) ∧ Below w.heap.size w w' := by
  obtain ⟨q1, q2, q3, q4⟩ := planB_inputs hp
  obtain ⟨l1, l2, l3, l4⟩ := planL_len p hw hp
  have HL := Lib.hid (show (jobL p.job).length ≤ 300 ∧ (lineL [workersWord, Lib.itoa p.workers]).length ≤ 43 ∧ (p.inputs.flatMap sourceL).length ≤ 48000 ∧ (p.acts.flatMap actL).length ≤ 17200 from ⟨l1, l2, l3, l4⟩)
  clear l1 l2 l3 l4
  have HR := fun W (hb : Below w.heap.size w W) => Lib.hid (plan_impl p vi va W (hi.mono rIn.mono hb) (ha.mono rAc.mono hb))
  have HP := Lib.hid hp
  have HJ := fun W (hb : Below w.heap.size w W) => Lib.hid (job_print p.job hw.job q4 W (ht.mono hb))
  obtain ⟨sj, hsj⟩ : ∃ sj, sj = ByteArray.mk (jobL p.job).toArray := ⟨_, rfl⟩
  rw [← hsj] at HJ
  have HSJ := Lib.hid hsj
  clear hp q4 hsj
  go_enter Tryz.func10, Tryz.ntmps10
  go_wp2_with (first | (go_at_call 11; refine (HR _ (by (repeat (first | exact Below.refl _ _ | assumption | refine ext_alloc ?_ _ | refine below_drewN ?_ _ | refine ext_drew ?_ | (refine below_tr ?_ (by assumption)))))).out.mono ?_; rintro r w1 ⟨rfl, hb1⟩; rw [HP.out]; obtain ⟨hc1, hf1⟩ := bcell hb1) | (go_at_call 27; refine (HJ _ (by (repeat (first | exact Below.refl _ _ | assumption | refine ext_alloc ?_ _ | refine below_drewN ?_ _ | refine ext_drew ?_ | (refine below_tr ?_ (by assumption)))))).out.mono ?_; rintro r w2 ⟨rfl, hb2⟩; obtain ⟨hc2, hf2⟩ := bcell hb2))
  have hW : Below w.heap.size w w2 := by (repeat (first | exact Below.refl _ _ | assumption | refine ext_alloc ?_ _ | refine below_drewN ?_ _ | refine ext_drew ?_ | (refine below_tr ?_ (by assumption))))
  have hz1 : w.heap.size + 1 ≤ w1.heap.size := by simpa using hb1.size
  have hz2 := hb2.size
  have hz : w.heap.size < w2.heap.size := by omega
  have hz' : w.heap.size < w1.heap.size := by omega
  have k8 : w2.cell? ⟨w.heap.size, 8, none⟩ = some vi := by rw [hc2 _ _ hz', hc1 _ _ (by simp)]; exact box_cell _ _ _ _ _ rfl
  have k9 : w2.cell? ⟨w.heap.size, 9, none⟩ = some (.int .i64 p.workers) := by rw [hc2 _ _ hz', hc1 _ _ (by simp)]; exact box_cell _ _ _ _ _ rfl
  have k10 : w2.cell? ⟨w.heap.size, 10, none⟩ = some va := by rw [hc2 _ _ hz', hc1 _ _ (by simp)]; exact box_cell _ _ _ _ _ rfl
  have ht2 : Tab w2 := ht.mono hW
  have hi2 := hi.mono rIn.mono hW
  have ha2 := ha.mono rAc.mono hW
  clear hi ha ht hc1 hc2 hf1 hf2 hb1 hb2 HR HJ hz' hz1 hz2
  obtain ⟨Ai, ci, rfl, hsi, hci, hmi⟩ := hi2
  obtain ⟨Aa, ca, rfl, hsa, hca, hma⟩ := ha2
  obtain ⟨b, hb0⟩ : ∃ b, b = w2.heap.size := ⟨_, rfl⟩
  have hpr : PrAt b b [] (w2.alloc (.cells #[.pointer none, .slice none 0 0] 68)) := hb0 ▸ fresh_pr w2
  have hbp : Below b w2 (w2.alloc (.cells #[.pointer none, .slice none 0 0] 68)) := by rw [hb0]; exact (Below.refl _ _).alloc (Nat.le_refl _) _
  have hsjl : bytesL sj = jobL p.job := by rw [HSJ.out, bytesL_mk]
  have hsjz : sj.size = (jobL p.job).length := by rw [HSJ.out, mk_size]
  have hws : ∃ sw, sw = ByteArray.mk (Lib.itoa p.workers).toArray := ⟨_, rfl⟩
  obtain ⟨sw, hsw⟩ := hws
  have HI := fun W (hT : Tab W) => Lib.hid (itoa_int p.workers hw.workers W hT)
  rw [← hsw] at HI
  have hswl : bytesL sw = Lib.itoa p.workers := by rw [hsw, bytesL_mk]
  have HW1 := Lib.hid (write_string b b [] sj _ hpr (by have := HL.out; simp; omega) (by simp; omega))
  have HB := Lib.hid hb0
  have HQ := Lib.hid (show bytesL sj = jobL p.job ∧ bytesL sw = Lib.itoa p.workers from ⟨hsjl, hswl⟩)
  have HL2 := fun W g (hg : g = W.heap.size) (hW : PrAt b b (jobL p.job) W) (hBW : b ≤ W.heap.size) => Lib.hid (line2 b b (jobL p.job) (ByteArray.mk #[119, 111, 114, 107, 101, 114, 115]) sw W g hg hW hBW (by rw [hswl, show bytesL (ByteArray.mk #[119, 111, 114, 107, 101, 114, 115]) = workersWord from rfl]; have := HL.out; omega))
  obtain ⟨W3, hW3⟩ : ∃ W3, W3 = w2.alloc (.cells #[.pointer none, .slice none 0 0] 68) := ⟨_, rfl⟩
  rw [← hW3] at HW1 hbp
  have HW3 := Lib.hid hW3
  clear hpr hsw HSJ hsjl hswl hb0 hW3
  go_wp2_with (first | (go_at_call 28; rw [← HW3.out, ← HB.out]; (with_reducible refine HW1.out.mono ?_); rintro r w3 ⟨rfl, hp3, hb3, hk3⟩; (have hb3' := hbp.trans hb3); (have c9 : w3.cell? ⟨w.heap.size, 9, none⟩ = some (.int .i64 p.workers) := (hb3'.cell (by rw [HB.out]; exact hz)).trans k9)) | (go_at_call 30; (with_reducible refine (HI _ (ht2.mono (HB.out ▸ hb3'))).out.mono ?_); rintro r w4 ⟨rfl, hb4⟩) | (go_at_call 29; (with_reducible refine (HL2 w4 _ rfl (PrAt.ext (pr_as hp3 HQ.out.1) hb4) (Nat.le_trans (pr_le hp3) hb4.size)).out.mono ?_); rintro r w5 ⟨rfl, hp5, hb5, hk5⟩; (have hb5' : Below b w2 w5 := hb3'.trans ((hb4.mono (pr_le hp3)).trans hb5)); (have c8 : w5.cell? ⟨w.heap.size, 8, none⟩ = some (.slice Ai p.inputs.length ci) := (hb5'.cell (by rw [HB.out]; exact hz)).trans k8)))
  have hp6 : PrAt b b (jobL p.job ++ lineL [workersWord, Lib.itoa p.workers] ++ (p.inputs.take 0).flatMap sourceL) w5 := by
    rw [show bytesL (ByteArray.mk #[119, 111, 114, 107, 101, 114, 115]) = workersWord from rfl] at hp5
    rw [← HQ.out.2]; simpa using hp5
  have hs6 := pr_le hp5
  clear hp3 hb3 hk3 hb3' c9 hp5 hb5 hk5 hb4 HI HL2 HW1 k8 k9 HW3 hbp
  go_loopw [40] (fun v40 wr => ∃ k : Nat, k ≤ p.inputs.length ∧ v40 = .int .i64 k ∧ PrAt b b (jobL p.job ++ lineL [workersWord, Lib.itoa p.workers] ++ (p.inputs.take k).flatMap sourceL) wr ∧ Below b w2 wr) (fun v40 _ => p.inputs.length - (intOf v40).toNat)
  case atStart => exact ⟨0, Nat.zero_le _, rfl, hp6, hb5'⟩
  case round =>
   obtain ⟨k, hk, rfl, hp, hb⟩ := hrel
   have hbB : Below w2.heap.size w2 wr := HB.out ▸ hb
   have hcb := (bcell hbB).1
   by_cases hlt : k < p.inputs.length
   · obtain ⟨bb, o, x0, rfl, hz0, ⟨v, hv, hsv⟩, e0⟩ := hsi.one k hlt
     injection hv with hv
     subst hv
     have f0 : wr.cell? ⟨bb, o + k, none⟩ = some x0 := (hcb _ _ hz0).trans e0
     have hm := hsv.mono rEv.mono hbB
     have HS := Lib.hid (source_calls b b _ x0 p.inputs[k] wr hm hp (pr_le hp) (ht2.mono hbB) (by rw [List.length_append, List.length_append]; have := HL.out; have := flat_take_len sourceL p.inputs k; have := sourceL_len p.inputs[k] (hw.inputs _ (List.getElem_mem _)) (q2 _ (List.getElem_mem _)).2 (q2 _ (List.getElem_mem _)).1; omega) (q2 _ (List.getElem_mem _)).1 (q2 _ (List.getElem_mem _)).2)
     obtain ⟨As, cs', rfl, _, hcs1, hcs2⟩ := hsv
     have HT := Lib.hid (flat_take sourceL p.inputs k hlt)
     clear hm hcb e0 hsi
     go_wp2_with (go_at_call 31; (with_reducible refine HS.out.mono ?_); rintro r w6 ⟨rfl, hp7, hb7, hk7⟩)
     go_roundw
     case rel => exact ⟨k + 1, by omega, by go_num, by rw [HT.out, ← List.append_assoc]; exact hp7, hb.trans hb7⟩
     case measure => simp [intOf]; omega
   · have hall : p.inputs.take k = p.inputs := List.take_of_length_le (by omega)
     rw [hall] at hp
     have c10 : wr.cell? ⟨w.heap.size, 10, none⟩ = some (.slice Aa p.acts.length ca) := (hcb _ _ hz).trans k10
     clear hcb hall hp6 hb5' hs6 k10
     go_wp2_with fail
     go_loopw [53] (fun v53 wq => ∃ k : Nat, k ≤ p.acts.length ∧ v53 = .int .i64 k ∧ PrAt b b (jobL p.job ++ lineL [workersWord, Lib.itoa p.workers] ++ p.inputs.flatMap sourceL ++ (p.acts.take k).flatMap actL) wq ∧ Below b w2 wq) (fun v53 _ => p.acts.length - (intOf v53).toNat)
     case atStart => exact ⟨0, Nat.zero_le _, rfl, by simpa using hp, hb⟩
     case round =>
      clear hp hb hbB c10
      obtain ⟨m, hm, rfl, hp, hb⟩ := hrel
      have hbB : Below w2.heap.size w2 wr := HB.out ▸ hb
      have hcb := (bcell hbB).1
      by_cases hlt2 : m < p.acts.length
      · obtain ⟨bb, o, x0, x1, x2, rfl, hz0, ⟨hcs, hwf⟩, e0, e1, e2⟩ := hsa.three m hlt2
        injection hcs with y0 hcs; injection hcs with y1 hcs; injection hcs with y2 hcs
        subst y0 y1 y2
        have f0 := (hcb _ _ hz0).trans e0
        have f1 := (hcb _ _ hz0).trans e1
        have f2 := (hcb _ _ hz0).trans e2
        have HN : needs p.acts[m].what = 0 ∨ needs p.acts[m].what = 1 ∨ needs p.acts[m].what = 2 := by rcases kinds p.acts[m].what with h | h; exact h.2.2.2; exact .inl (wordL_out h.2).2
        have HA := Lib.hid (fun W (hpW : PrAt b b (jobL p.job ++ lineL [workersWord, Lib.itoa p.workers] ++ p.inputs.flatMap sourceL ++ (p.acts.take m).flatMap actL) W) (hW : Below b w2 W) => act_calls b b (jobL p.job ++ lineL [workersWord, Lib.itoa p.workers] ++ p.inputs.flatMap sourceL ++ (p.acts.take m).flatMap actL) p.acts[m] hwf W hpW (pr_le hpW) (ht2.mono (HB.out ▸ hW)) (by rw [List.length_append, List.length_append, List.length_append]; have := HL.out; have := flat_take_len actL p.acts m; have := actL_len p.acts[m] hwf; omega) HN)
        have HT := Lib.hid (flat_take actL p.acts m hlt2)
        clear hcb e0 e1 e2 hsa
        go_wp2_with (go_at_call 32; (with_reducible refine (HA.out _ (hp.alloc _) (hb.alloc (pr_le hp) _)).mono ?_); rintro r w6 ⟨rfl, hp7, hb7, hk7⟩)
        go_roundw
        case rel => exact ⟨m + 1, by omega, by go_num, by rw [HT.out, ← List.append_assoc]; exact hp7, (hb.alloc (pr_le hp) _).trans hb7⟩
        case measure => simp [intOf]; omega
      · have hall2 : p.acts.take m = p.acts := List.take_of_length_le (by omega)
        rw [hall2] at hp
        have hpe : PrAt b b (planL p) wr := hp
        have HS := Lib.hid (to_string b b (planL p) wr hpe (by unfold planL jobL; simp))
        have hbW : Below w.heap.size w wr := below_tr hW hbB
        clear hcb hall2 hp hpe hsa hbB
        go_wp2_with (go_at_call 33; (with_reducible refine HS.out.mono ?_); rintro r w6 ⟨rfl, hb7⟩)
        go_ret2
        exact ⟨rfl, hbW.trans (hb7.mono (by rw [HB.out]; omega))⟩
end Go.Proofs.YtljbclkbmjjmdaaGreatDoor
