/- The walks of whether inputs may be. -/
import Derived.Test.YtljbclkbmjjmdaaDoorS1
import Derived.Test.YtljbclkbmjjmdaaDoorS4
namespace Go.Proofs.YtljbclkbmjjmdaaDoor
open Go.RowKit Go.Shelf
theorem any_not_all {α : Type} (p : α → Bool) (xs : List α) : (xs.any fun x => !p x) = !(xs.all p) := by
  rw [List.all_eq_not_any_not, Bool.not_not]
theorem pred_event (w : World) : FnPred Tryd.prog w 46 #[] rEv (fun cs => .agg cs.toArray) (fun e => !eventB e) := by
  refine ⟨enters_of Tryd.func46 (by kernel_rfl) rfl, ?_⟩
  rintro W e cs hW ⟨rfl, he⟩
  show Calls Tryd.prog 46 #[.agg #[.string e.key, .int .i64 e.at_, .int .i64 e.val]] W _
  clear hW
  go_enter Tryd.func46, Tryd.ntmps46
  go_wp2_with (go_at_call 47; refine (event_impl e _).mono ?_; rintro r w1 ⟨rfl, hb1⟩)
  go_ret
  exact ⟨rfl, by (repeat (first | exact Below.refl _ _ | assumption | refine ext_alloc ?_ _ | refine below_drewN ?_ _ | refine ext_drew ?_ | (refine below_tr ?_ (by assumption))))⟩
theorem pred_letters (w : World) : FnPred Tryd.prog w 24 #[] rEv (fun cs => .agg cs.toArray) (fun e => !lettersB e.key) := by
  refine ⟨enters_of Tryd.func24 (by kernel_rfl) rfl, ?_⟩
  rintro W e cs hW ⟨rfl, he⟩
  show Calls Tryd.prog 24 #[.agg #[.string e.key, .int .i64 e.at_, .int .i64 e.val]] W _
  clear hW
  go_enter Tryd.func24, Tryd.ntmps24
  go_wp2_with (go_at_call 25; refine (letters_impl _ he.1 _).mono ?_; rintro r w1 ⟨rfl, rfl⟩)
  go_ret
  exact ⟨rfl, by (repeat (first | exact Below.refl _ _ | assumption | refine ext_alloc ?_ _ | refine below_drewN ?_ _ | refine ext_drew ?_ | (refine below_tr ?_ (by assumption))))⟩
theorem pred_source (w : World) : FnPred Tryd.prog w 45 #[] rIn (fun cs => cs.headD undef) (fun s => !inputB s) := by
  refine ⟨enters_of Tryd.func45 (by kernel_rfl) rfl, ?_⟩
  rintro W s cs hW ⟨v, rfl, hs⟩
  show Calls Tryd.prog 45 #[v] W _
  clear hW
  have HC := Lib.hid (any_event rEv rEv.mono (fun e => !eventB e) v s _ _ W hs (pred_event W))
  obtain ⟨A, c, rfl, hs, hc, hm⟩ := hs
  clear hs
  have hk : inputB s = (decide (s.length ≤ 200) && !(s.any fun e => !eventB e)) := by unfold inputB; rw [any_not_all, Bool.not_not]
  have HK := Lib.hid hk; clear hk
  by_cases hl : s.length ≤ 200
  · have hd : decide ((200 : Int) < (s.length : Int)) = false := by simp; omega
    go_enter Tryd.func45, Tryd.ntmps45
    go_wp2_with (go_at_call 23; refine HC.out.mono ?_; rintro r w1 ⟨rfl, hb1⟩)
    go_ret
    exact ⟨ret_bool (by rw [HK.out]; simp [hl]), by (repeat (first | exact Below.refl _ _ | assumption | refine ext_alloc ?_ _ | refine below_drewN ?_ _ | refine ext_drew ?_ | (refine below_tr ?_ (by assumption))))⟩
  · have hd : decide ((200 : Int) < (s.length : Int)) = true := by simp; omega
    go_enter Tryd.func45, Tryd.ntmps45
    go_wp2_with fail
    go_ret
    exact ⟨ret_bool (by rw [HK.out]; simp [hl]), by (repeat (first | exact Below.refl _ _ | assumption | refine ext_alloc ?_ _ | refine below_drewN ?_ _ | refine ext_drew ?_ | (refine below_tr ?_ (by assumption))))⟩
theorem inputs_impl (v : Value) (l : List (List Ev)) (w : World) (hs : Sl 1 rIn w v l) : Calls Tryd.prog 22 #[v] w fun r w' => r = .returned (.bool (inputsB l)) ∧ Below w.heap.size w w' := by
  have HC := Lib.hid (any_source rIn rIn.mono (fun e => !inputB e) v l _ _ w hs (pred_source w))
  obtain ⟨A, c, rfl, hs, hc, hm⟩ := hs
  clear hs
  have hk : inputsB l = (decide (1 ≤ l.length ∧ l.length ≤ 4) && !(l.any fun e => !inputB e)) := by unfold inputsB; rw [any_not_all, Bool.not_not]
  have HK := Lib.hid hk; clear hk
  by_cases hl : 1 ≤ l.length
  · by_cases hl2 : l.length ≤ 4
    · go_enter Tryd.func22, Tryd.ntmps22
      go_wp2_with (go_at_call 44; refine HC.out.mono ?_; rintro r w1 ⟨rfl, hb1⟩)
      go_ret
      exact ⟨ret_bool (by rw [HK.out]; simp [hl, hl2]), by (repeat (first | exact Below.refl _ _ | assumption | refine ext_alloc ?_ _ | refine below_drewN ?_ _ | refine ext_drew ?_ | (refine below_tr ?_ (by assumption))))⟩
    · go_enter Tryd.func22, Tryd.ntmps22
      go_wp2_with fail
      go_ret
      exact ⟨ret_bool (by rw [HK.out]; simp [hl2]), by (repeat (first | exact Below.refl _ _ | assumption | refine ext_alloc ?_ _ | refine below_drewN ?_ _ | refine ext_drew ?_ | (refine below_tr ?_ (by assumption))))⟩
  · go_enter Tryd.func22, Tryd.ntmps22
    go_wp2_with fail
    go_ret
    exact ⟨ret_bool (by rw [HK.out]; simp [hl]), by (repeat (first | exact Below.refl _ _ | assumption | refine ext_alloc ?_ _ | refine below_drewN ?_ _ | refine ext_drew ?_ | (refine below_tr ?_ (by assumption))))⟩
theorem all_no {α : Type} {p : α → Bool} {xs : List α} (k : Nat) (hk : k < xs.length) (h : p xs[k] = false) : xs.all p = false := by
  rw [List.all_eq_false]; exact ⟨xs[k], List.getElem_mem hk, by simpa using h⟩
theorem all_yes {α : Type} {p : α → Bool} {xs : List α} (h : ∀ i (hi : i < xs.length), p xs[i] = true) : xs.all p = true := by
  rw [List.all_eq_true]
  intro x hx
  obtain ⟨i, hi, rfl⟩ := List.getElem_of_mem hx
  exact h i hi
theorem inputs_ref (v : Value) (l : List (List Ev)) (w : World) (hs : Sl 1 rIn w v l) : Calls Tryd.prog 17 #[v] w fun r w' => r = .returned (.bool (inputsB l)) ∧ Below w.heap.size w w' := by
  obtain ⟨A, c, rfl, hs, hc, hm⟩ := hs
  go_enter Tryd.func17, Tryd.ntmps17
  go_wp2_with fail
  go_loopw [9] (fun v9 wr => ∃ k : Nat, k ≤ l.length ∧ v9 = .int .i64 k ∧ Below w.heap.size w wr ∧ Hid (∀ i (hi : i < l.length), i < k → inputB l[i] = true)) (fun v9 _ => l.length - (intOf v9).toNat)
  case atStart => exact ⟨0, Nat.zero_le _, rfl, Below.refl _ _, fun i hi h => by omega⟩
  case round =>
   obtain ⟨k, hk, rfl, hb, hno⟩ := hrel
   obtain ⟨wo, rfl⟩ : ∃ wo : World, wo = wr := ⟨_, rfl⟩
   by_cases hlt : k < l.length
   · obtain ⟨b, o, u0, rfl, hbw, hr, e0⟩ := (hs.mono rIn.mono hb).one k hlt
     obtain ⟨v, hv, A2, c2, rfl, hs2, hc2, hm2⟩ := hr
     obtain rfl : u0 = .slice A2 l[k].length c2 := by simpa using hv
     obtain ⟨s, hsk⟩ : ∃ s, s = l[k] := ⟨_, rfl⟩
     rw [← hsk] at e0 hs2 hc2
     have HS := Lib.hid hsk
     clear hsk hv hs
     by_cases hl : s.length ≤ 200
     · have hd : decide ((200 : Int) < (s.length : Int)) = false := by simp; omega
       go_wp2_with fail
       go_loopw [18] (fun v18 wr => ∃ q : Nat, q ≤ s.length ∧ v18 = .int .i64 q ∧ Below wo.heap.size wo wr ∧ Hid (∀ i (hi : i < s.length), i < q → eventB s[i] = true)) (fun v18 _ => s.length - (intOf v18).toNat)
       case atStart => exact ⟨0, Nat.zero_le _, rfl, Below.refl _ _, fun i hi h => by omega⟩
       case round =>
        obtain ⟨q, hq, rfl, hb2, hno2⟩ := hrel
        by_cases hlt2 : q < s.length
        · obtain ⟨b3, o3, c0, c1, c3, rfl, hbw3, ⟨hcs, hev⟩, e1, e2, e3⟩ := (hs2.mono rEv.mono hb2).three q hlt2
          obtain ⟨rfl, rfl, rfl⟩ : c0 = .string s[q].key ∧ c1 = .int .i64 s[q].at_ ∧ c3 = .int .i64 s[q].val := by simpa using hcs
          clear hcs hs2
          have hcall := fun W => Lib.hid (event_ref s[q] hev W)
          go_wp2_with (go_at_call 41; refine (hcall _).out.mono ?_; rintro r w1 ⟨rfl, hb1⟩)
          · have hf : (!eventB s[q]) = true := by assumption
            go_ret
            refine ⟨ret_bool ?_, by (repeat (first | exact Below.refl _ _ | assumption | refine ext_alloc ?_ _ | refine below_drewN ?_ _ | refine ext_drew ?_ | (refine below_tr ?_ (by assumption))))⟩
            have hi : inputB l[k] = false := by
              rw [← HS.out]; unfold inputB; rw [all_no q hlt2 (by simpa using hf)]; simp
            unfold inputsB; rw [all_no k hlt hi]; simp
          · have hf : eventB s[q] = true := by simpa using (by assumption : (!eventB s[q]) = false)
            go_roundw
            case rel => exact ⟨q + 1, by omega, by go_num, by (repeat (first | exact Below.refl _ _ | assumption | refine ext_alloc ?_ _ | refine below_drewN ?_ _ | refine ext_drew ?_ | (refine below_tr ?_ (by assumption)))), fun i hi h => by
              by_cases e : i = q
              · subst e; exact hf
              · exact hno2.out i hi (by omega)⟩
            case measure => simp [intOf]; omega
        · go_wp2_with fail
          go_roundw
          case rel => exact ⟨k + 1, by omega, by go_num, by (repeat (first | exact Below.refl _ _ | assumption | refine ext_alloc ?_ _ | refine below_drewN ?_ _ | refine ext_drew ?_ | (refine below_tr ?_ (by assumption)))), fun i hi h => by
            by_cases e : i = k
            · subst e
              rw [← HS.out]; unfold inputB
              rw [all_yes fun i hi => hno2.out i hi (by omega)]; simp [hl]
            · exact hno.out i hi (by omega)⟩
          case measure => simp [intOf]; omega
     · have hd : decide ((200 : Int) < (s.length : Int)) = true := by simp; omega
       go_wp2_with fail
       go_ret
       refine ⟨ret_bool ?_, by (repeat (first | exact Below.refl _ _ | assumption | refine ext_alloc ?_ _ | refine below_drewN ?_ _ | refine ext_drew ?_ | (refine below_tr ?_ (by assumption))))⟩
       have hi : inputB l[k] = false := by rw [← HS.out]; unfold inputB; simp [hl]
       unfold inputsB; rw [all_no k hlt hi]; simp
   · have ha : l.all inputB = true := all_yes fun i hi => hno.out i hi (by omega)
     have HA := Lib.hid ha
     clear ha
     go_wp2_with fail
     all_goals go_ret
     all_goals exact ⟨ret_bool (by unfold inputsB; rw [HA.out, Bool.and_true]; (first | rfl | (rw [Bool.eq_iff_iff]; simp; done) | (rw [Bool.eq_iff_iff]; simp; omega) | (rw [Bool.eq_iff_iff]; omega))), by (repeat (first | exact Below.refl _ _ | assumption | refine ext_alloc ?_ _ | refine below_drewN ?_ _ | refine ext_drew ?_ | (refine below_tr ?_ (by assumption))))⟩
end Go.Proofs.YtljbclkbmjjmdaaDoor
