/- The walks of what tells two plans alike, where they are. -/
import Derived.Test.YtljbclkbmjjmdaaGreatDoorPA
namespace Go.Proofs.YtljbclkbmjjmdaaGreatDoor
open Go.RowKit Go.Shelf
theorem cell_drewN (w : World) (n : Nat) (a : Addr) : (w.drewN n).cell? a = w.cell? a := rfl
set_option maxHeartbeats 1000000 in
theorem like_events (es : List Ev) (v v' : Value) (w : World) (h : Sl 3 rEv w v es) (h' : Sl 3 rEv w v' es) : Calls Tryz.prog 26 #[v, v'] w fun e w' => e = .returned (.bool true) ∧ ∃ n, w' = w.drewN n := by
  obtain ⟨A, c, rfl, hs, hc, hm⟩ := h
  obtain ⟨A', c', rfl, hs', hc', hm'⟩ := h'
  go_enter Tryz.func26, Tryz.ntmps26
  go_wp2_with fail
  go_loopw [13] (fun v13 wr => ∃ k n : Nat, k ≤ es.length ∧ v13 = .int .i64 k ∧ wr = w.drewN n) (fun v13 _ => es.length - (intOf v13).toNat)
  case atStart => exact ⟨0, 0, by omega, rfl, rfl⟩
  case round =>
   obtain ⟨k, n, hk, rfl, rfl⟩ := hrel
   by_cases hlt : k < es.length
   · obtain ⟨b, o, x0, x1, x2, rfl, hz, ⟨hcs, hwf⟩, e0, e1, e2⟩ := hs.three k hlt
     injection hcs with q0 hcs; injection hcs with q1 hcs; injection hcs with q2 hcs
     subst q0 q1 q2
     obtain ⟨b', o', y0, y1, y2, rfl, hz', ⟨hcs, hwf'⟩, g0, g1, g2⟩ := hs'.three k hlt
     injection hcs with q0 hcs; injection hcs with q1 hcs; injection hcs with q2 hcs
     subst q0 q1 q2
     have e0' : (w.drewN n).cell? ⟨b, o + k * 3, none⟩ = some (.string es[k].key) := e0
     have e1' : (w.drewN n).cell? ⟨b, o + k * 3 + 1, none⟩ = some (.int .i64 es[k].at_) := e1
     have e2' : (w.drewN n).cell? ⟨b, o + k * 3 + 2, none⟩ = some (.int .i64 es[k].val) := e2
     have g0' : (w.drewN n).cell? ⟨b', o' + k * 3, none⟩ = some (.string es[k].key) := g0
     have g1' : (w.drewN n).cell? ⟨b', o' + k * 3 + 1, none⟩ = some (.int .i64 es[k].at_) := g1
     have g2' : (w.drewN n).cell? ⟨b', o' + k * 3 + 2, none⟩ = some (.int .i64 es[k].val) := g2
     have hi0 : (0 : Int) ≤ k := by omega
     have hi1 : (k : Int) < es.length := by omega
     clear hs hs'
     obtain ⟨e, he⟩ : ∃ e, e = es[k] := ⟨_, rfl⟩
     rw [← he] at e0' e1' e2' g0' g1' g2' e0 e1 e2 g0 g1 g2
     clear he
     go_wp2_with fail
     go_quiet (fail)
     go_wp2_with fail
     exact ⟨⟨k + 1, n + nq, by omega, by go_num, rfl⟩, by simp [intOf]; omega⟩
   · go_wp2_with fail
     go_ret
     exact ⟨rfl, n, rfl⟩
theorem drewN_zero (w : World) : w.drewN 0 = w := rfl
def AG (p : Pl) (vi va : Value) : Value := .agg #[.int .i64 p.job.groups, .int .i64 p.job.size, .int .i64 p.job.slide, .int .i64 p.job.fold, .int .i64 p.job.fuel, .int .i64 p.job.limit, .int .i64 p.job.delay, .int .i64 p.job.idle, vi, .int .i64 p.workers, va]
set_option maxHeartbeats 1000000 in
set_option maxRecDepth 100000 in
theorem like_same (p : Pl) (vi va vi' va' : Value) (w : World) (hi : Sl 1 rIn w vi p.inputs) (ha : Sl 3 rAc w va p.acts) (hi' : Sl 1 rIn w vi' p.inputs) (ha' : Sl 3 rAc w va' p.acts) :
    Calls Tryz.prog 9 #[.agg #[.int .i64 p.job.groups, .int .i64 p.job.size, .int .i64 p.job.slide, .int .i64 p.job.fold, .int .i64 p.job.fuel, .int .i64 p.job.limit, .int .i64 p.job.delay, .int .i64 p.job.idle, vi, .int .i64 p.workers, va], .agg #[.int .i64 p.job.groups, .int .i64 p.job.size, .int .i64 p.job.slide, .int .i64 p.job.fold, .int .i64 p.job.fuel, .int .i64 p.job.limit, .int .i64 p.job.delay, .int .i64 p.job.idle, vi', .int .i64 p.workers, va']] w fun e w' => e = .returned (.bool true) ∧ Below w.heap.size w w' := by
  obtain ⟨Ai, ci, rfl, hsi, hci, hmi⟩ := hi
  obtain ⟨Aa, ca, rfl, hsa, hca, hma⟩ := ha
  obtain ⟨Bi, di, rfl, hti, hdi, hni⟩ := hi'
  obtain ⟨Ba, da, rfl, hta, hda, hna⟩ := ha'
  obtain ⟨W, hW⟩ : ∃ W, W = (w.alloc (.cells #[.int .i64 p.job.groups, .int .i64 p.job.size, .int .i64 p.job.slide, .int .i64 p.job.fold, .int .i64 p.job.fuel, .int .i64 p.job.limit, .int .i64 p.job.delay, .int .i64 p.job.idle, .slice Ai p.inputs.length ci, .int .i64 p.workers, .slice Aa p.acts.length ca] 27)).alloc (.cells #[.int .i64 p.job.groups, .int .i64 p.job.size, .int .i64 p.job.slide, .int .i64 p.job.fold, .int .i64 p.job.fuel, .int .i64 p.job.limit, .int .i64 p.job.delay, .int .i64 p.job.idle, .slice Bi p.inputs.length di, .int .i64 p.workers, .slice Ba p.acts.length da] 27) := ⟨_, rfl⟩
  have hb : Below w.heap.size w W := by rw [hW]; exact ext_alloc (ext_alloc (Below.refl _ _) _) _
  have hblk : W.heap[w.heap.size]? = some (.cells #[.int .i64 p.job.groups, .int .i64 p.job.size, .int .i64 p.job.slide, .int .i64 p.job.fold, .int .i64 p.job.fuel, .int .i64 p.job.limit, .int .i64 p.job.delay, .int .i64 p.job.idle, .slice Ai p.inputs.length ci, .int .i64 p.workers, .slice Aa p.acts.length ca] 27 (0, 0)) := by rw [hW]; exact heap_alloc_keep _ (heap_alloc_new w _)
  have hblk2 : W.heap[w.heap.size + 1]? = some (.cells #[.int .i64 p.job.groups, .int .i64 p.job.size, .int .i64 p.job.slide, .int .i64 p.job.fold, .int .i64 p.job.fuel, .int .i64 p.job.limit, .int .i64 p.job.delay, .int .i64 p.job.idle, .slice Bi p.inputs.length di, .int .i64 p.workers, .slice Ba p.acts.length da] 27 (0, 0)) := by rw [hW]; exact heap_alloc_new' (by simp) _
  have c8 : W.cell? ⟨w.heap.size, 8, none⟩ = some (.slice Ai p.inputs.length ci) := by rw [Lib.cell_of_heap hblk]; rfl
  have c10 : W.cell? ⟨w.heap.size, 10, none⟩ = some (.slice Aa p.acts.length ca) := by rw [Lib.cell_of_heap hblk]; rfl
  have k8 : W.cell? ⟨w.heap.size + 1, 8, none⟩ = some (.slice Bi p.inputs.length di) := by rw [Lib.cell_of_heap hblk2]; rfl
  have k10 : W.cell? ⟨w.heap.size + 1, 10, none⟩ = some (.slice Ba p.acts.length da) := by rw [Lib.cell_of_heap hblk2]; rfl
  have HW := Lib.hid hW
  clear hblk hblk2 hW
  go_enter Tryz.func9, Tryz.ntmps9
  go_wp2_with fail
  go_loopw [40] (fun v40 wr => ∃ k n : Nat, k ≤ p.inputs.length ∧ v40 = .int .i64 k ∧ wr = W.drewN n) (fun v40 _ => p.inputs.length - (intOf v40).toNat)
  case atStart => exact ⟨0, 0, by omega, rfl, by rw [HW.out]; rfl⟩
  case round =>
   obtain ⟨k, n, hk, rfl, rfl⟩ := hrel
   by_cases hlt : k < p.inputs.length
   · obtain ⟨b, o, x, rfl, hz, ⟨v, hv, hsv⟩, e0⟩ := hsi.one k hlt
     injection hv with hv
     subst hv
     obtain ⟨b', o', y, rfl, hz', ⟨v, hv, hsv'⟩, g0⟩ := hti.one k hlt
     injection hv with hv
     subst hv
     have f0 : W.cell? ⟨b, o + k, none⟩ = some x := ((bcell hb).1 _ _ hz).trans e0
     have f0' : (W.drewN n).cell? ⟨b, o + k, none⟩ = some x := f0
     have f1 : W.cell? ⟨b', o' + k, none⟩ = some y := ((bcell hb).1 _ _ hz').trans g0
     have f1' : (W.drewN n).cell? ⟨b', o' + k, none⟩ = some y := f1
     have c8' : (W.drewN n).cell? ⟨w.heap.size, 8, none⟩ = some (.slice (some ⟨b, o, none⟩) p.inputs.length ci) := c8
     have k8' : (W.drewN n).cell? ⟨w.heap.size + 1, 8, none⟩ = some (.slice (some ⟨b', o', none⟩) p.inputs.length di) := k8
     have HLE := fun m => Lib.hid ((like_events p.inputs[k] x y (W.drewN (n + m)) (hsv.mono rEv.mono (below_drewN hb (n + m))) (hsv'.mono rEv.mono (below_drewN hb (n + m)))).mono (R' := fun e w'' => e = .returned (.bool true) ∧ ∃ n_1, w'' = W.drewN (n + n_1)) fun _ _ ⟨he, q, hq⟩ => ⟨he, m + q, by rw [hq, World.drewN_drewN, Nat.add_assoc]⟩)
     have hi0 : (0 : Int) ≤ k := by omega
     have hi1 : (k : Int) < p.inputs.length := by omega
     clear hsi hti e0 g0 hsv hsv'
     go_wp2_with fail
     go_quiet ((go_at_call 26; exact (HLE _).out))
     go_wp2_with fail
     exact ⟨⟨k + 1, n + nq, by omega, by go_num, rfl⟩, by simp [intOf]; omega⟩
   · have HWn : Hid (Below w.heap.size w (W.drewN n)) := Lib.hid (below_drewN hb n)
     have c10' : (W.drewN n).cell? ⟨w.heap.size, 10, none⟩ = some (.slice Aa p.acts.length ca) := c10
     have k10' : (W.drewN n).cell? ⟨w.heap.size + 1, 10, none⟩ = some (.slice Ba p.acts.length da) := k10
     go_wp2_with fail
     go_loopw [59] (fun v59 wr => ∃ k m : Nat, k ≤ p.acts.length ∧ v59 = .int .i64 k ∧ wr = W.drewN m) (fun v59 _ => p.acts.length - (intOf v59).toNat)
     case atStart => exact ⟨0, n, by omega, rfl, rfl⟩
     case round =>
      clear c10' k10' hlt hk HWn
      obtain ⟨k, m, hk, rfl, rfl⟩ := hrel
      by_cases hlt : k < p.acts.length
      · obtain ⟨b, o, x0, x1, x2, rfl, hz, ⟨hcs, hwf⟩, e0, e1, e2⟩ := hsa.three k hlt
        injection hcs with q0 hcs; injection hcs with q1 hcs; injection hcs with q2 hcs
        subst q0 q1 q2
        obtain ⟨b', o', y0, y1, y2, rfl, hz', ⟨hcs, hwf'⟩, g0, g1, g2⟩ := hta.three k hlt
        injection hcs with q0 hcs; injection hcs with q1 hcs; injection hcs with q2 hcs
        subst q0 q1 q2
        obtain ⟨e, he⟩ : ∃ e, e = p.acts[k] := ⟨_, rfl⟩
        rw [← he] at e0 e1 e2 g0 g1 g2
        have f0 : W.cell? ⟨b, o + k * 3, none⟩ = some (.int .i64 e.what) := ((bcell hb).1 _ _ hz).trans e0
        have f1 : W.cell? ⟨b, o + k * 3 + 1, none⟩ = some (.int .i64 e.who) := ((bcell hb).1 _ _ hz).trans e1
        have f2 : W.cell? ⟨b, o + k * 3 + 2, none⟩ = some (.int .i64 e.which) := ((bcell hb).1 _ _ hz).trans e2
        have l0 : W.cell? ⟨b', o' + k * 3, none⟩ = some (.int .i64 e.what) := ((bcell hb).1 _ _ hz').trans g0
        have l1 : W.cell? ⟨b', o' + k * 3 + 1, none⟩ = some (.int .i64 e.who) := ((bcell hb).1 _ _ hz').trans g1
        have l2 : W.cell? ⟨b', o' + k * 3 + 2, none⟩ = some (.int .i64 e.which) := ((bcell hb).1 _ _ hz').trans g2
        have f0' : (W.drewN m).cell? ⟨b, o + k * 3, none⟩ = some (.int .i64 e.what) := f0
        have f1' : (W.drewN m).cell? ⟨b, o + k * 3 + 1, none⟩ = some (.int .i64 e.who) := f1
        have f2' : (W.drewN m).cell? ⟨b, o + k * 3 + 2, none⟩ = some (.int .i64 e.which) := f2
        have l0' : (W.drewN m).cell? ⟨b', o' + k * 3, none⟩ = some (.int .i64 e.what) := l0
        have l1' : (W.drewN m).cell? ⟨b', o' + k * 3 + 1, none⟩ = some (.int .i64 e.who) := l1
        have l2' : (W.drewN m).cell? ⟨b', o' + k * 3 + 2, none⟩ = some (.int .i64 e.which) := l2
        have c10' : (W.drewN m).cell? ⟨w.heap.size, 10, none⟩ = some (.slice (some ⟨b, o, none⟩) p.acts.length ca) := c10
        have k10' : (W.drewN m).cell? ⟨w.heap.size + 1, 10, none⟩ = some (.slice (some ⟨b', o', none⟩) p.acts.length da) := k10
        have hi0 : (0 : Int) ≤ k := by omega
        have hi1 : (k : Int) < p.acts.length := by omega
        clear hsa hta e0 e1 e2 g0 g1 g2 he hsi hti
        go_wp2_with fail
        go_quiet (fail)
        go_wp2_with fail
        exact ⟨⟨k + 1, m + nq, by omega, by go_num, rfl⟩, by simp [intOf]; omega⟩
      · go_wp2_with fail
        go_ret
        exact ⟨rfl, below_drewN hb m⟩
end Go.Proofs.YtljbclkbmjjmdaaGreatDoor
