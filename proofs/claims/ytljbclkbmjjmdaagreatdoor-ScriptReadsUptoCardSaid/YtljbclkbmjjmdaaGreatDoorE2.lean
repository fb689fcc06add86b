/- The laws: what is printed is parsed back; what is parsed, printed, is the text. -/
import Derived.Test.YtljbclkbmjjmdaaGreatDoorPB
import Derived.Test.YtljbclkbmjjmdaaGreatDoorE1
import Derived.Test.YtljbclkbmjjmdaaGreatDoorV
namespace Go.Proofs.YtljbclkbmjjmdaaGreatDoor
open Go.RowKit Go.Shelf
theorem sl_val {α : Type} {k : Nat} {R : RepT α} {w : World} {v : Value} {xs : List α} (h : Sl k R w v xs) : ∃ A c, v = .slice A xs.length c := by
  obtain ⟨A, c, e, _⟩ := h
  exact ⟨A, c, e⟩
theorem scr_bad {n : Int} {l : List UInt8} {p x : Pl} {e m : Int} (h : ScrRun n l p x e m) : e ≠ 0 → x = zeroP := by
  induction h with
  | fin => intro h; exact absurd rfl h
  | none => intro _; rfl
  | open_ => intro _; rfl
  | srcBad => intro _; rfl
  | actBad => intro _; rfl
  | src _ _ _ _ _ _ _ _ _ _ _ _ _ _ _ ih => exact ih
  | act _ _ _ _ _ _ _ _ _ _ _ _ _ _ _ ih => exact ih
theorem plan_bad {l : List UInt8} {x : Pl} {e k : Int} (h : PlanRun l x e k) (he : e ≠ 0) : x = zeroP := by
  cases h with
  | job => rfl
  | seven => rfl
  | go _ _ _ _ _ _ _ _ _ _ _ _ _ _ hr => exact scr_bad hr he
theorem planL_size {p : Pl} (hw : PlWf p) (h : planB p = true) : (ByteArray.mk (planL p).toArray).size < 4294967281 := by
  obtain ⟨h1, h2, h3, h4⟩ := planL_len p hw h
  rw [mk_size]
  unfold planL
  simp only [List.length_append]
  omega
theorem parse_back (p : Pl) (hok : PlOk p) (w : World) (h : Env w) : Calls Tryz.prog 6 #[.string (ByteArray.mk (planL p).toArray)] w fun e w' => ∃ vi va, e = .returned (.tuple #[.agg #[.int .i64 p.job.groups, .int .i64 p.job.size, .int .i64 p.job.slide, .int .i64 p.job.fold, .int .i64 p.job.fuel, .int .i64 p.job.limit, .int .i64 p.job.delay, .int .i64 p.job.idle, vi, .int .i64 p.workers, va], .int .i64 0, .int .i64 0]) ∧ Sl 1 rIn w' vi p.inputs ∧ Sl 3 rAc w' va p.acts ∧ Below w.heap.size w w' := by
  obtain ⟨hb, hw⟩ := ok_planB hok
  refine (parse_calls (ByteArray.mk (planL p).toArray) (planL_size hw hb) w h).mono ?_
  rintro e w' ⟨x, f, k, vi, va, rfl, hr, h1, h2, h3⟩
  obtain ⟨rfl, rfl, rfl⟩ := hr.eq (plan_back hok)
  exact ⟨vi, va, rfl, h1, h2, h3⟩
theorem parse_once (s : ByteArray) (hs : s.size < 4294967281) (w : World) (h : Env w) : Calls Tryz.prog 6 #[.string s] w fun e w' => ∃ x f k vi va, e = .returned (.tuple #[.agg #[.int .i64 x.job.groups, .int .i64 x.job.size, .int .i64 x.job.slide, .int .i64 x.job.fold, .int .i64 x.job.fuel, .int .i64 x.job.limit, .int .i64 x.job.delay, .int .i64 x.job.idle, vi, .int .i64 x.workers, va], .int .i64 f, .int .i64 k]) ∧ Sl 1 rIn w' vi x.inputs ∧ Sl 3 rAc w' va x.acts ∧ Below w.heap.size w w' ∧ ((f ≠ 0 ∧ x = zeroP) ∨ (f = 0 ∧ PlOk x ∧ s = ByteArray.mk (planL x).toArray)) := by
  refine (parse_calls s hs w h).mono ?_
  rintro e w' ⟨x, f, k, vi, va, rfl, hr, h1, h2, h3⟩
  refine ⟨x, f, k, vi, va, rfl, h1, h2, h3, ?_⟩
  by_cases hf : f = 0
  · subst hf
    obtain ⟨ho, hl, _⟩ := plan_once hr
    exact .inr ⟨rfl, ho, (mk_of s).trans (by rw [hl])⟩
  · exact .inl ⟨hf, plan_bad hr hf⟩
set_option maxHeartbeats 1000000 in
set_option maxRecDepth 100000 in
theorem law_back (p : Pl) (hw : PlWf p) (vi va : Value) (w : World) (hi : Sl 1 rIn w vi p.inputs) (ha : Sl 3 rAc w va p.acts) (h : Env w) :
    Calls Tryz.prog 4 #[.agg #[.int .i64 p.job.groups, .int .i64 p.job.size, .int .i64 p.job.slide, .int .i64 p.job.fold, .int .i64 p.job.fuel, .int .i64 p.job.limit, .int .i64 p.job.delay, .int .i64 p.job.idle, vi, .int .i64 p.workers, va]] w
      fun e w' => e = .returned (.bool true) ∧ Below w.heap.size w w' := by
  have HL := fun W => Lib.hid (alive_calls W)
  cases hp : planB p
  · have HR := fun W (hb : Below w.heap.size w W) => Lib.hid (plan_impl p vi va W (hi.mono rIn.mono hb) (ha.mono rAc.mono hb))
    have HP := fun W (hb : Below w.heap.size w W) => Lib.hid (print_no p hp vi va W (hi.mono rIn.mono hb) (ha.mono rAc.mono hb))
    have HB := Lib.hid hp
    clear hi ha h hp hw
    go_enter Tryz.func4, Tryz.ntmps4
    go_wp2_with (first | (go_at_call 10; refine (HP _ (by (repeat (first | exact Below.refl _ _ | assumption | refine ext_alloc ?_ _ | refine below_drewN ?_ _ | refine ext_drew ?_ | (refine below_tr ?_ (by assumption)))))).out.mono ?_; rintro r w1 ⟨rfl, hb1⟩; obtain ⟨hc1, hf1⟩ := bcell hb1; have z1 : w.heap.size < w1.heap.size := by have hq := hb1.size; (try simp at hq); omega) | (go_at_call 8; refine (HL _).out.mono ?_; rintro r w3 ⟨rfl, hb3⟩; obtain ⟨hc3, hf3⟩ := bcell hb3; have z3 : w.heap.size < w3.heap.size := by have hq := hb3.size; (try simp at hq); omega) | (go_at_call 11; refine (HR _ (by (repeat (first | exact Below.refl _ _ | assumption | refine ext_alloc ?_ _ | refine below_drewN ?_ _ | refine ext_drew ?_ | (refine below_tr ?_ (by assumption)))))).out.mono ?_; rintro r w4 ⟨rfl, hb4⟩; rw [HB.out]; obtain ⟨hc4, hf4⟩ := bcell hb4; have z4 : w.heap.size < w4.heap.size := by have hq := hb4.size; (try simp at hq); omega))
    go_ret
    exact ⟨rfl, by (repeat (first | exact Below.refl _ _ | assumption | refine ext_alloc ?_ _ | refine below_drewN ?_ _ | refine ext_drew ?_ | (refine below_tr ?_ (by assumption))))⟩
  · have hok := planB_ok hp hw
    have HP := fun W (hb : Below w.heap.size w W) => Lib.hid (print_yes p hp hw vi va W (hi.mono rIn.mono hb) (ha.mono rAc.mono hb) (h.tab.mono hb))
    have HQ := fun W (hb : Below w.heap.size w W) => Lib.hid (parse_back p hok W (h.mono hb))
    have HK := fun W (hb : Below w.heap.size w W) vi' va' (h1 : Sl 1 rIn W vi' p.inputs) (h2 : Sl 3 rAc W va' p.acts) => Lib.hid (like_same p vi va vi' va' W (hi.mono rIn.mono hb) (ha.mono rAc.mono hb) h1 h2)
    obtain ⟨S, hS⟩ : ∃ S, S = ByteArray.mk (planL p).toArray := ⟨_, rfl⟩
    rw [← hS] at HP HQ
    clear hi ha h hp hw hS hok
    go_enter Tryz.func4, Tryz.ntmps4
    go_wp2_with (go_at_call 10; (with_reducible refine (HP _ (by (repeat (first | exact Below.refl _ _ | assumption | refine ext_alloc ?_ _ | refine below_drewN ?_ _ | refine ext_drew ?_ | (refine below_tr ?_ (by assumption)))))).out.mono ?_); rintro r w1 ⟨rfl, hb1⟩; obtain ⟨hc1, hf1⟩ := bcell hb1; have z1 : w.heap.size < w1.heap.size := by have hq := hb1.size; (try simp at hq); omega)
    (with_reducible refine (HQ _ (by (repeat (first | exact Below.refl _ _ | assumption | refine ext_alloc ?_ _ | refine below_drewN ?_ _ | refine ext_drew ?_ | (refine below_tr ?_ (by assumption)))))).out.mono ?_)
    rintro r w2 ⟨vi', va', rfl, h1, h2, hb2⟩
    obtain ⟨Ai, ci, rfl⟩ := sl_val h1
    obtain ⟨Aa, ca, rfl⟩ := sl_val h2
    have H12 := Lib.hid (And.intro h1 h2)
    clear h1 h2
    obtain ⟨hc2, hf2⟩ := bcell hb2
    have z2 : w.heap.size < w2.heap.size := by have hq := hb2.size; omega
    have hb12 : Below w.heap.size w w2 := by (repeat (first | exact Below.refl _ _ | assumption | refine ext_alloc ?_ _ | refine below_drewN ?_ _ | refine ext_drew ?_ | (refine below_tr ?_ (by assumption))))
    go_wp2_with (go_at_call 9; (with_reducible refine (HK _ (by (repeat (first | exact Below.refl _ _ | assumption | refine ext_alloc ?_ _ | refine below_drewN ?_ _ | refine ext_drew ?_ | (refine below_tr ?_ (by assumption))))) _ _ (H12.out.1.mono rIn.mono (by (repeat (first | exact Below.refl _ _ | assumption | refine ext_alloc ?_ _ | refine below_drewN ?_ _ | refine ext_drew ?_ | (refine below_tr ?_ (by assumption)))))) (H12.out.2.mono rAc.mono (by (repeat (first | exact Below.refl _ _ | assumption | refine ext_alloc ?_ _ | refine below_drewN ?_ _ | refine ext_drew ?_ | (refine below_tr ?_ (by assumption))))))).out.mono ?_); rintro r w3 ⟨rfl, hb3⟩)
    go_ret
    exact ⟨rfl, by (repeat (first | exact Below.refl _ _ | assumption | refine ext_alloc ?_ _ | refine below_drewN ?_ _ | refine ext_drew ?_ | (refine below_tr ?_ (by assumption))))⟩
theorem like_zero (x : Pl) (hx : x = zeroP) (vi va : Value) (w : World) (h1 : Sl 1 rIn w vi x.inputs) (h2 : Sl 3 rAc w va x.acts) : Calls Tryz.prog 9 #[.agg #[.int .i64 x.job.groups, .int .i64 x.job.size, .int .i64 x.job.slide, .int .i64 x.job.fold, .int .i64 x.job.fuel, .int .i64 x.job.limit, .int .i64 x.job.delay, .int .i64 x.job.idle, vi, .int .i64 x.workers, va], .agg #[.int .i64 0, .int .i64 0, .int .i64 0, .int .i64 0, .int .i64 0, .int .i64 0, .int .i64 0, .int .i64 0, .slice none 0 0, .int .i64 0, .slice none 0 0]] w fun e w' => e = .returned (.bool true) ∧ Below w.heap.size w w' := by
  subst hx
  exact like_same zeroP vi va nilV nilV w h1 h2 (Sl.nil _ _ _) (Sl.nil _ _ _)
set_option maxHeartbeats 1000000 in
set_option maxRecDepth 100000 in
theorem law_once (s : ByteArray) (hs : s.size < 4294967281) (w : World) (h : Env w) :
    Calls Tryz.prog 5 #[.string s] w fun e w' => e = .returned (.bool true) ∧ Below w.heap.size w w' := by
  have HL := fun W => Lib.hid (alive_calls W)
  have HQ := Lib.hid (parse_once s hs w h)
  go_enter Tryz.func5, Tryz.ntmps5
  go_wp2_with (go_at_call 6; (with_reducible refine HQ.out.mono ?_))
  rintro r w1 ⟨x, f, k, vi, va, rfl, h1, h2, hb1, hcase⟩
  obtain ⟨Ai, ci, rfl⟩ := sl_val h1
  obtain ⟨Aa, ca, rfl⟩ := sl_val h2
  rcases hcase with ⟨hf, hx⟩ | ⟨hf, hok, hse⟩
  · have hfb : (f != 0) = true := by rw [bne_iff_ne]; exact hf
    have HK := fun W (hb : Below w1.heap.size w1 W) => Lib.hid (like_zero x hx _ _ W (h1.mono rIn.mono hb) (h2.mono rAc.mono hb))
    clear h1 h2 hf h hx
    go_wp2_with (first | (go_at_call 8; refine (HL _).out.mono ?_; rintro r w3 ⟨rfl, hb3⟩; obtain ⟨hc3, hf3⟩ := bcell hb3; have z3 : w1.heap.size < w3.heap.size := by have hq := hb3.size; (try simp at hq); omega) | (go_at_call 9; (with_reducible refine (HK _ (by (repeat (first | exact Below.refl _ _ | assumption | refine ext_alloc ?_ _ | refine below_drewN ?_ _ | refine ext_drew ?_ | (refine below_tr ?_ (by assumption)))))).out.mono ?_); rintro r w4 ⟨rfl, hb4⟩))
    go_ret
    exact ⟨rfl, by (repeat (first | exact Below.refl _ _ | assumption | refine ext_alloc ?_ _ | refine below_drewN ?_ _ | refine ext_drew ?_ | (refine below_tr ?_ (by assumption))))⟩
  · subst hf
    obtain ⟨hb, hw⟩ := ok_planB hok
    have HP := fun W (hb' : Below w1.heap.size w1 W) => Lib.hid (print_yes x hb hw _ _ W (h1.mono rIn.mono hb') (h2.mono rAc.mono hb') (h.tab.mono (below_tr hb1 hb')))
    rw [← hse] at HP
    clear h1 h2 hse hok hb hw h
    go_wp2_with (first | (go_at_call 8; refine (HL _).out.mono ?_; rintro r w3 ⟨rfl, hb3⟩; obtain ⟨hc3, hf3⟩ := bcell hb3; have z3 : w1.heap.size < w3.heap.size := by have hq := hb3.size; (try simp at hq); omega) | (go_at_call 10; (with_reducible refine (HP _ (by (repeat (first | exact Below.refl _ _ | assumption | refine ext_alloc ?_ _ | refine below_drewN ?_ _ | refine ext_drew ?_ | (refine below_tr ?_ (by assumption)))))).out.mono ?_); rintro r w2 ⟨rfl, hb2⟩; obtain ⟨hc2, hf2⟩ := bcell hb2; have z2 : w1.heap.size < w2.heap.size := by have hq := hb2.size; (try simp at hq); omega))
    go_ret
    exact ⟨ret_bool (by simp), by (repeat (first | exact Below.refl _ _ | assumption | refine ext_alloc ?_ _ | refine below_drewN ?_ _ | refine ext_drew ?_ | (refine below_tr ?_ (by assumption))))⟩
end Go.Proofs.YtljbclkbmjjmdaaGreatDoor
