/- The law: a text is read as the reference reads it. -/
import Derived.Test.YtljbclkbmjjmdaaGreatDoorU5
import Derived.Test.YtljbclkbmjjmdaaGreatDoorE2
namespace Go.Proofs.YtljbclkbmjjmdaaGreatDoor
open Go.RowKit Go.Shelf
def ReadPost (L : List UInt8) (w : World) (e : Ending) (w' : World) : Prop := ∃ x f k vi va, e = .returned (.tuple #[.agg #[.int .i64 x.job.groups, .int .i64 x.job.size, .int .i64 x.job.slide, .int .i64 x.job.fold, .int .i64 x.job.fuel, .int .i64 x.job.limit, .int .i64 x.job.delay, .int .i64 x.job.idle, vi, .int .i64 x.workers, va], .int .i64 f, .int .i64 k]) ∧ PlanRun L x f k ∧ Sl 1 rIn w' vi x.inputs ∧ Sl 3 rAc w' va x.acts ∧ Below w.heap.size w w'
theorem read_impl (s : ByteArray) (hs : s.size < 4294967281) (w : World) (h : Env w) : Calls Tryz.prog 6 #[.string s] w (ReadPost s.data.toList w) := parse_calls s hs w h
theorem read_ref (s : ByteArray) (hs : s.size < 4294967281) (w : World) : Calls Tryz.prog 7 #[.string s] w (ReadPost s.data.toList w) := parse24 s hs w
set_option maxHeartbeats 2000000 in
set_option maxRecDepth 100000 in
theorem law_reads (s : ByteArray) (hs : s.size < 4294967281) (w : World) (h : Env w) :
    Calls Tryz.prog 3 #[.string s] w fun e w' => e = .returned (.bool true) ∧ Below w.heap.size w w' := by
  have HL := fun W => Lib.hid (alive_calls W)
  have HQ := Lib.hid (read_impl s hs w h)
  have HR := fun W => Lib.hid (read_ref s hs W)
  go_enter Tryz.func3, Tryz.ntmps3
  go_wp2_with (go_at_call 6; (with_reducible refine HQ.out.mono ?_))
  rintro r w1 ⟨x, f, k, vi, va, rfl, hr1, h1, h2, hb1⟩
  obtain ⟨Ai, ci, rfl⟩ := sl_val h1
  obtain ⟨Aa, ca, rfl⟩ := sl_val h2
  have H12 := Lib.hid (And.intro hr1 (And.intro h1 h2))
  clear hr1 h1 h2 HQ
  go_wp2_with (go_at_call 7; (with_reducible refine (HR _).out.mono ?_))
  rintro r w2 ⟨y, g, m, vi', va', rfl, hr2, h3, h4, hb2⟩
  obtain ⟨rfl, rfl, rfl⟩ := H12.out.1.eq hr2
  obtain ⟨Bi, di, rfl⟩ := sl_val h3
  obtain ⟨Ba, da, rfl⟩ := sl_val h4
  have hbm : Below w1.heap.size w1 w2 := by (repeat (first | exact Below.refl _ _ | assumption | refine ext_alloc ?_ _ | refine below_drewN ?_ _ | refine ext_drew ?_ | (refine below_tr ?_ (by assumption))))
  have HK := fun W (hb : Below w2.heap.size w2 W) => Lib.hid (like_same x _ _ _ _ W (H12.out.2.1.mono rIn.mono (below_tr hbm hb)) (H12.out.2.2.mono rAc.mono (below_tr hbm hb)) (h3.mono rIn.mono hb) (h4.mono rAc.mono hb))
  obtain ⟨hc2, hf2⟩ := bcell hb2
  have z2 : w1.heap.size < w2.heap.size := by have hq := hb2.size; (try simp at hq); omega
  clear hr2 h3 h4 HR H12
  go_wp2_with (first | (go_at_call 8; refine (HL _).out.mono ?_; rintro r w3 ⟨rfl, hb3⟩; obtain ⟨hc3, hf3⟩ := bcell hb3; have z3 : w2.heap.size < w3.heap.size := by have hq := hb3.size; (try simp at hq); omega) | (go_at_call 9; (with_reducible refine (HK _ (by (repeat (first | exact Below.refl _ _ | assumption | refine ext_alloc ?_ _ | refine below_drewN ?_ _ | refine ext_drew ?_ | (refine below_tr ?_ (by assumption)))))).out.mono ?_); rintro r w4 ⟨rfl, hb4⟩))
  go_ret
  exact ⟨rfl, by (repeat (first | exact Below.refl _ _ | assumption | refine ext_alloc ?_ _ | refine below_drewN ?_ _ | refine ext_drew ?_ | (refine below_tr ?_ (by assumption))))⟩
end Go.Proofs.YtljbclkbmjjmdaaGreatDoor
