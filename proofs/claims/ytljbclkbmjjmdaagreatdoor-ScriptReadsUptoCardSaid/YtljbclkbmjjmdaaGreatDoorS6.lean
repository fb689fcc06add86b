/- The walks of whether a plan may be. -/
import Derived.Test.YtljbclkbmjjmdaaGreatDoorS2
import Derived.Test.YtljbclkbmjjmdaaGreatDoorS3
import Derived.Test.YtljbclkbmjjmdaaGreatDoorS5
namespace Go.Proofs.YtljbclkbmjjmdaaGreatDoor
open Go.RowKit Go.Shelf
theorem pred_act (w : World) : FnPred Tryz.prog w 40 #[] rAc (fun cs => .agg cs.toArray) (fun a => !actB a) := by
  refine ⟨enters_of Tryz.func40 (by kernel_rfl) rfl, ?_⟩
  rintro W e cs hW ⟨rfl, he⟩
  show Calls Tryz.prog 40 #[.agg #[.int .i64 e.what, .int .i64 e.who, .int .i64 e.which]] W _
  clear hW
  go_enter Tryz.func40, Tryz.ntmps40
  go_wp2_with (go_at_call 41; refine (act_impl e _).mono ?_; rintro r w1 ⟨rfl, hb1⟩)
  go_ret
  exact ⟨rfl, by (repeat (first | exact Below.refl _ _ | assumption | refine ext_alloc ?_ _ | refine below_drewN ?_ _ | refine ext_drew ?_ | (refine below_tr ?_ (by assumption))))⟩

/-- The parts of whether a plan may be. -/
def planHead (p : Pl) : Bool := jobB p.job && inputsB p.inputs && decide (1 ≤ p.workers ∧ p.workers ≤ 8) && decide (p.acts.length ≤ 400)
def planKeys (p : Pl) : Bool := p.inputs.all (fun s => s.all fun e => lettersB e.key)
theorem planB_eq (p : Pl) : planB p = (planHead p && planKeys p && p.acts.all actB) := rfl

set_option maxHeartbeats 1000000 in
theorem plan_impl (p : Pl) (vi va : Value) (w : World) (hi : Sl 1 rIn w vi p.inputs) (ha : Sl 3 rAc w va p.acts) :
    Calls Tryz.prog 11 #[.agg #[.int .i64 p.job.groups, .int .i64 p.job.size, .int .i64 p.job.slide, .int .i64 p.job.fold, .int .i64 p.job.fuel, .int .i64 p.job.limit, .int .i64 p.job.delay, .int .i64 p.job.idle, vi, .int .i64 p.workers, va]] w
      fun r w' => r = .returned (.bool (planB p)) ∧ Below w.heap.size w w' := by
  have HJ := fun W => Lib.hid (job_impl p.job W)
  have HI := fun W (hb : Below w.heap.size w W) => Lib.hid (inputs_impl vi p.inputs W (hi.mono rIn.mono hb))
  have HA := fun W (hb : Below w.heap.size w W) => Lib.hid (any_act rAc rAc.mono (fun a => !actB a) va p.acts _ _ W (ha.mono rAc.mono hb) (pred_act W))
  obtain ⟨Ai, ci, rfl, hi, hci, hmi⟩ := hi
  obtain ⟨Aa, ca, rfl, ha, hca, hma⟩ := ha
  clear ha
  have hk : ∀ b c d e : Bool, (jobB p.job = b) → inputsB p.inputs = c → planKeys p = d → p.acts.all actB = e → planB p = (b && c && decide (1 ≤ p.workers ∧ p.workers ≤ 8) && decide (p.acts.length ≤ 400) && d && e) := by
    rintro _ _ _ _ rfl rfl rfl rfl; rfl
  have HK := Lib.hid hk
  clear hk
  cases hb1 : jobB p.job <;> have HJB := Lib.hid hb1 <;> clear hb1
  · go_enter Tryz.func11, Tryz.ntmps11
    go_wp2_with (go_at_call 34; refine (HJ _).out.mono ?_; rintro r w1 ⟨rfl, hb1⟩; rw [HJB.out])
    go_ret
    exact ⟨ret_bool (by rw [HK.out _ _ _ _ HJB.out rfl rfl rfl]; simp), by (repeat (first | exact Below.refl _ _ | assumption | refine ext_alloc ?_ _ | refine below_drewN ?_ _ | refine ext_drew ?_ | (refine below_tr ?_ (by assumption))))⟩
  cases hb1 : inputsB p.inputs <;> have HIB := Lib.hid hb1 <;> clear hb1
  · go_enter Tryz.func11, Tryz.ntmps11
    go_wp2_with (first | (go_at_call 34; refine (HJ _).out.mono ?_; rintro r w1 ⟨rfl, hb1⟩; rw [HJB.out]; obtain ⟨hc1, hf1⟩ := bcell hb1) | (go_at_call 35; refine (HI _ (by (repeat (first | exact Below.refl _ _ | assumption | refine ext_alloc ?_ _ | refine below_drewN ?_ _ | refine ext_drew ?_ | (refine below_tr ?_ (by assumption)))))).out.mono ?_; rintro r w2 ⟨rfl, hb2⟩; rw [HIB.out]))
    go_ret
    exact ⟨ret_bool (by rw [HK.out _ _ _ _ HJB.out HIB.out rfl rfl]; simp), by (repeat (first | exact Below.refl _ _ | assumption | refine ext_alloc ?_ _ | refine below_drewN ?_ _ | refine ext_drew ?_ | (refine below_tr ?_ (by assumption))))⟩
  by_cases hw1 : 1 ≤ p.workers ∧ p.workers ≤ 8 ∧ p.acts.length ≤ 400
  rotate_left
  · have hz : (decide (1 ≤ p.workers ∧ p.workers ≤ 8) && decide (p.acts.length ≤ 400)) = false := by rw [Bool.and_eq_false_iff]; simp; omega
    have HZ := Lib.hid hz
    clear hz
    go_enter Tryz.func11, Tryz.ntmps11
    go_wp2_with (first | (go_at_call 34; refine (HJ _).out.mono ?_; rintro r w1 ⟨rfl, hb1⟩; rw [HJB.out]; obtain ⟨hc1, hf1⟩ := bcell hb1; have hz1 : w.heap.size < w1.heap.size := (by have := hb1.size; simp at this; omega)) | (go_at_call 35; refine (HI _ (by (repeat (first | exact Below.refl _ _ | assumption | refine ext_alloc ?_ _ | refine below_drewN ?_ _ | refine ext_drew ?_ | (refine below_tr ?_ (by assumption)))))).out.mono ?_; rintro r w2 ⟨rfl, hb2⟩; rw [HIB.out]; obtain ⟨hc2, hf2⟩ := bcell hb2))
    all_goals go_ret
    all_goals exact ⟨ret_bool (by rw [HK.out _ _ _ _ HJB.out HIB.out rfl rfl]; simp only [Bool.true_and]; rw [HZ.out]; simp), by (repeat (first | exact Below.refl _ _ | assumption | refine ext_alloc ?_ _ | refine below_drewN ?_ _ | refine ext_drew ?_ | (refine below_tr ?_ (by assumption))))⟩
  obtain ⟨g1, g2, g3⟩ := hw1
  have hk1 : (decide (1 ≤ p.workers ∧ p.workers ≤ 8) && decide (p.acts.length ≤ 400)) = true := by rw [Bool.and_eq_true]; simp; omega
  have HZ := Lib.hid hk1
  have hd : decide ((400 : Int) < (p.acts.length : Int)) = false := by simp; omega
  clear hk1
  go_enter Tryz.func11, Tryz.ntmps11
  go_wp2_with (first | (go_at_call 34; refine (HJ _).out.mono ?_; rintro r w1 ⟨rfl, hb1⟩; rw [HJB.out]; obtain ⟨hc1, hf1⟩ := bcell hb1; have hz1 : w.heap.size < w1.heap.size := (by have := hb1.size; simp at this; omega)) | (go_at_call 35; refine (HI _ (by (repeat (first | exact Below.refl _ _ | assumption | refine ext_alloc ?_ _ | refine below_drewN ?_ _ | refine ext_drew ?_ | (refine below_tr ?_ (by assumption)))))).out.mono ?_; rintro r w2 ⟨rfl, hb2⟩; rw [HIB.out]; obtain ⟨hc2, hf2⟩ := bcell hb2))
  have hbx : Below w.heap.size w w2 := by (repeat (first | exact Below.refl _ _ | assumption | refine ext_alloc ?_ _ | refine below_drewN ?_ _ | refine ext_drew ?_ | (refine below_tr ?_ (by assumption))))
  have cA : w2.cell? ⟨w.heap.size, 10, none⟩ = some (.slice Aa p.acts.length ca) := by rw [hc2 _ _ hz1, hc1 _ _ (by simp)]; simp
  have hzz : w.heap.size < w2.heap.size := by have := hb2.size; omega
  clear hc1 hf1 hc2 hf2 hb1 hb2 hz1
  go_loopw [34] (fun v wr => ∃ k : Nat, k ≤ p.inputs.length ∧ v = .int .i64 k ∧ Below w2.heap.size w2 wr ∧ Hid (∀ i (hi : i < p.inputs.length), i < k → (p.inputs[i].all fun e => lettersB e.key) = true)) (fun v _ => p.inputs.length - (intOf v).toNat)
  case atStart => exact ⟨0, Nat.zero_le _, rfl, Below.refl _ _, fun i hi h => by omega⟩
  case round =>
   obtain ⟨k, hk, rfl, hb, hno⟩ := hrel
   by_cases hlt : k < p.inputs.length
   · obtain ⟨b, o, u0, rfl, hbw, hr, e0⟩ := (hi.mono rIn.mono (below_tr hbx hb)).one k hlt
     obtain ⟨v, hv, hs2⟩ := hr
     obtain rfl : u0 = v := by simpa using hv
     have HC := fun W (hW : Below wr.heap.size wr W) => Lib.hid (any_event rEv rEv.mono (fun e => !lettersB e.key) u0 p.inputs[k] _ _ W (hs2.mono rEv.mono hW) (pred_letters W))
     obtain ⟨A2, c2, rfl, _, hc2, hm2⟩ := hs2
     clear hv hi
     go_wp2_with (go_at_call 36; refine (HC _ (by (repeat (first | exact Below.refl _ _ | assumption | refine ext_alloc ?_ _ | refine below_drewN ?_ _ | refine ext_drew ?_ | (refine below_tr ?_ (by assumption)))))).out.mono ?_; rintro r w3 ⟨rfl, hb3⟩)
     · have hf : (p.inputs[k].any fun e => !lettersB e.key) = true := by assumption
       go_ret
       refine ⟨ret_bool ?_, by (repeat (first | exact Below.refl _ _ | assumption | refine ext_alloc ?_ _ | refine below_drewN ?_ _ | refine ext_drew ?_ | (refine below_tr ?_ (by assumption))))⟩
       rw [any_not_all] at hf
       have hn : planKeys p = false := all_no k hlt (by simpa using hf)
       rw [HK.out _ _ _ _ HJB.out HIB.out hn rfl]; simp
     · have hf : (p.inputs[k].any fun e => !lettersB e.key) = false := by assumption
       go_roundw
       case rel => exact ⟨k + 1, by omega, by go_num, by (repeat (first | exact Below.refl _ _ | assumption | refine ext_alloc ?_ _ | refine below_drewN ?_ _ | refine ext_drew ?_ | (refine below_tr ?_ (by assumption)))), fun i hi h => by
         by_cases e : i = k
         · subst e; rw [any_not_all] at hf; simpa using hf
         · exact hno.out i hi (by omega)⟩
       case measure => simp [intOf]; omega
   · have hn : planKeys p = true := all_yes fun i hi => hno.out i hi (by omega)
     have HN := Lib.hid hn
     have cA' : wr.cell? ⟨w.heap.size, 10, none⟩ = some (.slice Aa p.acts.length ca) := by rw [← cA]; exact hb.cell (p := ⟨w.heap.size, 10, none⟩) hzz
     clear hn cA
     go_wp2_with (go_at_call 39; refine (HA _ (by (repeat (first | exact Below.refl _ _ | assumption | refine ext_alloc ?_ _ | refine below_drewN ?_ _ | refine ext_drew ?_ | (refine below_tr ?_ (by assumption)))))).out.mono ?_; rintro r w3 ⟨rfl, hb3⟩)
     go_ret
     exact ⟨ret_bool (by rw [HK.out _ _ _ _ HJB.out HIB.out HN.out rfl]; simp only [Bool.true_and]; rw [HZ.out, any_not_all]; simp), by (repeat (first | exact Below.refl _ _ | assumption | refine ext_alloc ?_ _ | refine below_drewN ?_ _ | refine ext_drew ?_ | (refine below_tr ?_ (by assumption))))⟩

end Go.Proofs.YtljbclkbmjjmdaaGreatDoor
