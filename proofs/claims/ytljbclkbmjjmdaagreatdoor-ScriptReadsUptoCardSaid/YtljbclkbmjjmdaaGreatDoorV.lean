/- A plain plan, and that it may be. -/
import Derived.Test.YtljbclkbmjjmdaaGreatDoorT7
import Derived.Laws.Rows
import Derived.Laws.OwnMore
import Derived.Laws.ResultCell
namespace Go.Proofs.YtljbclkbmjjmdaaGreatDoor
open Go.RowKit Go.Shelf
def plainP : Pl := ⟨⟨1, 1, 1, 2, 0, 0, 0, 0⟩, [[]], 1, []⟩
theorem plain_right : planB plainP = true := by decide
theorem plan_info : (Tryz.prog.info? 27).map (·.size) = some 11 := by kernel_rfl
theorem plan_desc : (match Tryz.prog.underlying 27 with | some (.struct _) => true | _ => false) = true := by kernel_rfl
theorem plan_under : ∃ fs, Tryz.prog.underlying 27 = some (.struct fs) := by
  have hd := plan_desc
  cases hu : Tryz.prog.underlying 27 with
  | none => rw [hu] at hd; cases hd
  | some d =>
    rw [hu] at hd
    cases d <;> first | exact ⟨_, rfl⟩ | cases hd
theorem plain_calls (w : World) : Calls Tryz.prog 25 #[] w fun e w' => ∃ g, e = .returned (.agg #[.int .i64 1, .int .i64 1, .int .i64 1, .int .i64 2, .int .i64 0, .int .i64 0, .int .i64 0, .int .i64 0, .slice (some ⟨g, 0, none⟩) 1 1, .int .i64 1, .slice none 0 0]) ∧ Below w.heap.size w w' ∧ g < w'.heap.size ∧ w'.cell? ⟨g, 0, none⟩ = some (.slice none 0 0) := by
  obtain ⟨d, hud⟩ := plan_under
  have HU := Lib.hid hud
  clear hud
  go_enter Tryz.func25, Tryz.ntmps25
  go_wp2
  refine bodyPost_ret (results_cell_row rfl _ _ w.heap.size _ _ (0, 0) (.struct d) rfl ((Below.heap_alloc _ _ _ (by simp)).trans (heap_alloc_new w _)) HU.out rfl plan_info) rfl ?_
  refine ⟨w.heap.size + 1, rfl, by (repeat (first | exact Below.refl _ _ | assumption | refine ext_alloc ?_ _ | refine below_drewN ?_ _ | refine ext_drew ?_ | (refine below_tr ?_ (by assumption)))), by simp, ?_⟩
  simp
theorem alive_calls (w : World) : Calls Tryz.prog 8 #[] w fun e w' => e = .returned (.bool true) ∧ Below w.heap.size w w' := by
  have HR := fun W g (hg : g < W.heap.size) (hc : W.cell? ⟨g, 0, none⟩ = some (.slice none 0 0)) => Lib.hid (plan_impl plainP (.slice (some ⟨g, 0, none⟩) 1 1) (.slice none 0 0) W
    ⟨_, 1, rfl, fun i x hx => by
      match i, hx with
      | 0, hx =>
        have hx : x = [] := (Option.some.inj hx).symm
        subst hx
        exact ⟨g, 0, [.slice none 0 0], rfl, hg, ⟨_, rfl, Sl.nil 3 rEv W⟩, rfl, fun j u hj => by
          match j, hj with
          | 0, hj => have := Option.some.inj hj; subst this; exact hc⟩, by decide, by omega⟩ (Sl.nil 3 rAc W))
  have HP := Lib.hid plain_right
  have HC := fun W => Lib.hid (plain_calls W)
  go_enter Tryz.func8, Tryz.ntmps8
  go_wp2_with (first | (go_at_call 25; refine (HC _).out.mono ?_; rintro r w1 ⟨g, rfl, hb1, hg, hcg⟩) | (go_at_call 11; refine (HR _ _ hg hcg).out.mono ?_; rintro r w2 ⟨rfl, hb2⟩; rw [HP.out]))
  go_ret
  exact ⟨rfl, by (repeat (first | exact Below.refl _ _ | assumption | refine ext_alloc ?_ _ | refine below_drewN ?_ _ | refine ext_drew ?_ | (refine below_tr ?_ (by assumption))))⟩
end Go.Proofs.YtljbclkbmjjmdaaGreatDoor
