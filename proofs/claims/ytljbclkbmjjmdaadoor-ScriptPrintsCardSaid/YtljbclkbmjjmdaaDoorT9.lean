/- The law of the plan's printing. -/
import Derived.Test.YtljbclkbmjjmdaaDoorT7
import Derived.Test.YtljbclkbmjjmdaaDoorT8
import Derived.Laws.Rows
namespace Go.Proofs.YtljbclkbmjjmdaaDoor
open Go.RowKit Go.Shelf
def plainP : Pl := ⟨⟨1, 1, 1, 2, 0, 0, 0, 0⟩, [[]], 1, []⟩
theorem plain_right : planB plainP = true := by decide
theorem plan_info : (Tryd.prog.info? 27).map (·.size) = some 11 := by kernel_rfl
theorem plan_desc : (match Tryd.prog.underlying 27 with | some (.struct _) => true | _ => false) = true := by kernel_rfl
theorem plan_under : ∃ fs, Tryd.prog.underlying 27 = some (.struct fs) := by
  have hd := plan_desc
  cases hu : Tryd.prog.underlying 27 with
  | none => rw [hu] at hd; cases hd
  | some d =>
    rw [hu] at hd
    cases d <;> first | exact ⟨_, rfl⟩ | cases hd
theorem plain_calls (w : World) : Calls Tryd.prog 20 #[] w fun e w' => ∃ g, e = .returned (.agg #[.int .i64 1, .int .i64 1, .int .i64 1, .int .i64 2, .int .i64 0, .int .i64 0, .int .i64 0, .int .i64 0, .slice (some ⟨g, 0, none⟩) 1 1, .int .i64 1, .slice none 0 0]) ∧ Below w.heap.size w w' ∧ g < w'.heap.size ∧ w'.cell? ⟨g, 0, none⟩ = some (.slice none 0 0) := by
  obtain ⟨d, hud⟩ := plan_under
  have HU := Lib.hid hud
  clear hud
  go_enter Tryd.func20, Tryd.ntmps20
  go_wp2
  refine bodyPost_ret (results_cell_row rfl _ _ w.heap.size _ _ (0, 0) (.struct d) rfl ((Below.heap_alloc _ _ _ (by simp)).trans (heap_alloc_new w _)) HU.out rfl plan_info) rfl ?_
  refine ⟨w.heap.size + 1, rfl, by (repeat (first | exact Below.refl _ _ | assumption | refine ext_alloc ?_ _ | refine below_drewN ?_ _ | refine ext_drew ?_ | (refine below_tr ?_ (by assumption)))), by simp, ?_⟩
  simp
theorem alive_calls (w : World) : Calls Tryd.prog 6 #[] w fun e w' => e = .returned (.bool true) ∧ Below w.heap.size w w' := by
  have HR := fun W g (hg : g < W.heap.size) (hc : W.cell? ⟨g, 0, none⟩ = some (.slice none 0 0)) => Lib.hid (plan_impl plainP (.slice (some ⟨g, 0, none⟩) 1 1) (.slice none 0 0) W
    ⟨_, 1, rfl, fun i x hx => by
      match i, hx with
      | 0, hx =>
        have hx : x = [] := (Option.some.inj hx).symm
        subst hx
        exact ⟨g, 0, [.slice none 0 0], rfl, hg, ⟨_, rfl, Sl.nil 3 rEv W⟩, rfl, fun j u hj => by
          match j, hj with
          | 0, hj => have := Option.some.inj hj; subst this; exact hc⟩, by decide, by omega⟩ (Sl.nil 3 rAc W))
  have HP := Lib.hid plain_right
  have HC := fun W => Lib.hid (plain_calls W)
  go_enter Tryd.func6, Tryd.ntmps6
  go_wp2_with (first | (go_at_call 20; refine (HC _).out.mono ?_; rintro r w1 ⟨g, rfl, hb1, hg, hcg⟩) | (go_at_call 7; refine (HR _ _ hg hcg).out.mono ?_; rintro r w2 ⟨rfl, hb2⟩; rw [HP.out]))
  go_ret
  exact ⟨rfl, by (repeat (first | exact Below.refl _ _ | assumption | refine ext_alloc ?_ _ | refine below_drewN ?_ _ | refine ext_drew ?_ | (refine below_tr ?_ (by assumption))))⟩
set_option maxHeartbeats 1000000 in
set_option maxRecDepth 100000 in
theorem law_prints (p : Pl) (hw : PlWf p) (vi va : Value) (w : World) (hi : Sl 1 rIn w vi p.inputs) (ha : Sl 3 rAc w va p.acts) (ht : Tab w) :
    Calls Tryd.prog 3 #[.agg #[.int .i64 p.job.groups, .int .i64 p.job.size, .int .i64 p.job.slide, .int .i64 p.job.fold, .int .i64 p.job.fuel, .int .i64 p.job.limit, .int .i64 p.job.delay, .int .i64 p.job.idle, vi, .int .i64 p.workers, va]] w
      fun e w' => e = .returned (.bool true) ∧ Below w.heap.size w w' := by
  have HR := fun W (hb : Below w.heap.size w W) => Lib.hid (plan_impl p vi va W (hi.mono rIn.mono hb) (ha.mono rAc.mono hb))
  have HQ := fun W (hb : Below w.heap.size w W) => Lib.hid (plan_ref p vi va W (hi.mono rIn.mono hb) (ha.mono rAc.mono hb))
  have HL := fun W => Lib.hid (alive_calls W)
  cases hp : planB p
  · have HP := fun W (hb : Below w.heap.size w W) => Lib.hid (print_no p hp vi va W (hi.mono rIn.mono hb) (ha.mono rAc.mono hb))
    have HB := Lib.hid hp
    clear hi ha ht hp hw
    go_enter Tryd.func3, Tryd.ntmps3
    go_wp2_with (first | (go_at_call 4; refine (HP _ (by (repeat (first | exact Below.refl _ _ | assumption | refine ext_alloc ?_ _ | refine below_drewN ?_ _ | refine ext_drew ?_ | (refine below_tr ?_ (by assumption)))))).out.mono ?_; rintro r w1 ⟨rfl, hb1⟩; obtain ⟨hc1, hf1⟩ := bcell hb1; have z1 : w.heap.size < w1.heap.size := by have hq := hb1.size; (try simp at hq); omega) | (go_at_call 5; refine (HQ _ (by (repeat (first | exact Below.refl _ _ | assumption | refine ext_alloc ?_ _ | refine below_drewN ?_ _ | refine ext_drew ?_ | (refine below_tr ?_ (by assumption)))))).out.mono ?_; rintro r w2 ⟨rfl, hb2⟩; rw [HB.out]; obtain ⟨hc2, hf2⟩ := bcell hb2; have z2 : w.heap.size < w2.heap.size := by have hq := hb2.size; (try simp at hq); omega) | (go_at_call 6; refine (HL _).out.mono ?_; rintro r w3 ⟨rfl, hb3⟩; obtain ⟨hc3, hf3⟩ := bcell hb3; have z3 : w.heap.size < w3.heap.size := by have hq := hb3.size; (try simp at hq); omega) | (go_at_call 7; refine (HR _ (by (repeat (first | exact Below.refl _ _ | assumption | refine ext_alloc ?_ _ | refine below_drewN ?_ _ | refine ext_drew ?_ | (refine below_tr ?_ (by assumption)))))).out.mono ?_; rintro r w4 ⟨rfl, hb4⟩; rw [HB.out]; obtain ⟨hc4, hf4⟩ := bcell hb4; have z4 : w.heap.size < w4.heap.size := by have hq := hb4.size; (try simp at hq); omega))
    go_ret
    exact ⟨rfl, by (repeat (first | exact Below.refl _ _ | assumption | refine ext_alloc ?_ _ | refine below_drewN ?_ _ | refine ext_drew ?_ | (refine below_tr ?_ (by assumption))))⟩
  · have HP := fun W (hb : Below w.heap.size w W) => Lib.hid (print_yes p hp hw vi va W (hi.mono rIn.mono hb) (ha.mono rAc.mono hb) (ht.mono hb))
    have HT := fun W (hb : Below w.heap.size w W) => Lib.hid (text_ref p hp hw vi va W (hi.mono rIn.mono hb) (ha.mono rAc.mono hb) (ht.mono hb))
    have HB := Lib.hid hp
    obtain ⟨S, hS⟩ : ∃ S, S = ByteArray.mk (planL p).toArray := ⟨_, rfl⟩
    rw [← hS] at HP HT
    clear hi ha ht hp hw hS
    go_enter Tryd.func3, Tryd.ntmps3
    go_wp2_with (first | (go_at_call 4; refine (HP _ (by (repeat (first | exact Below.refl _ _ | assumption | refine ext_alloc ?_ _ | refine below_drewN ?_ _ | refine ext_drew ?_ | (refine below_tr ?_ (by assumption)))))).out.mono ?_; rintro r w1 ⟨rfl, hb1⟩; obtain ⟨hc1, hf1⟩ := bcell hb1; have z1 : w.heap.size < w1.heap.size := by have hq := hb1.size; (try simp at hq); omega) | (go_at_call 5; refine (HQ _ (by (repeat (first | exact Below.refl _ _ | assumption | refine ext_alloc ?_ _ | refine below_drewN ?_ _ | refine ext_drew ?_ | (refine below_tr ?_ (by assumption)))))).out.mono ?_; rintro r w2 ⟨rfl, hb2⟩; rw [HB.out]; obtain ⟨hc2, hf2⟩ := bcell hb2; have z2 : w.heap.size < w2.heap.size := by have hq := hb2.size; (try simp at hq); omega) | (go_at_call 8; refine (HT _ (by (repeat (first | exact Below.refl _ _ | assumption | refine ext_alloc ?_ _ | refine below_drewN ?_ _ | refine ext_drew ?_ | (refine below_tr ?_ (by assumption)))))).out.mono ?_; rintro r w3 ⟨rfl, hb3⟩; obtain ⟨hc3, hf3⟩ := bcell hb3; have z3 : w.heap.size < w3.heap.size := by have hq := hb3.size; (try simp at hq); omega) | (go_at_call 7; refine (HR _ (by (repeat (first | exact Below.refl _ _ | assumption | refine ext_alloc ?_ _ | refine below_drewN ?_ _ | refine ext_drew ?_ | (refine below_tr ?_ (by assumption)))))).out.mono ?_; rintro r w4 ⟨rfl, hb4⟩; rw [HB.out]; obtain ⟨hc4, hf4⟩ := bcell hb4; have z4 : w.heap.size < w4.heap.size := by have hq := hb4.size; (try simp at hq); omega))
    go_ret
    exact ⟨ret_bool (by simp), by (repeat (first | exact Below.refl _ _ | assumption | refine ext_alloc ?_ _ | refine below_drewN ?_ _ | refine ext_drew ?_ | (refine below_tr ?_ (by assumption))))⟩
end Go.Proofs.YtljbclkbmjjmdaaDoor
