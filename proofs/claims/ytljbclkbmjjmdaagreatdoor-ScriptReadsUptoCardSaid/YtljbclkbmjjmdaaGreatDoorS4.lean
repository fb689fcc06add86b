/- The walks of slices.IndexFunc and ContainsFunc at this seat's types, over whatever function value tells. -/
import Derived.Test.YtljbclkbmjjmdaaGreatDoorM
namespace Go.Proofs.YtljbclkbmjjmdaaGreatDoor
open Go.RowKit Go.Shelf
theorem ret_idx {α : Type} (p : α → Bool) (xs : List α) : decide (0 ≤ firstIdx p xs) = xs.any p := by
  unfold firstIdx
  cases h : xs.findIdx? p with
  | none =>
    have : xs.any p = false := by rw [List.any_eq_false]; intro x hx; simpa using List.findIdx?_eq_none_iff.1 h x hx
    rw [this]; decide
  | some i =>
    have : xs.any p = true := by
      obtain ⟨hi, hp, _⟩ := List.findIdx?_eq_some_iff_getElem.1 h
      rw [List.any_eq_true]; exact ⟨xs[i], List.getElem_mem hi, hp⟩
    rw [this]; simp
theorem idx_event {α : Type} (R : RepT α) (hR : Mono R) (p : α → Bool) (v : Value) (xs : List α) (g : Nat) (lb : Array Value) (w : World)
   (hs : Sl 3 R w v xs) (hp : FnPred Tryz.prog w g lb R (fun cs => .agg cs.toArray) p) :
   Calls Tryz.prog 66 #[v, .func (.func g) #[] lb] w fun e w' => e = .returned (.int .i64 (firstIdx p xs)) ∧ Below w.heap.size w w' := by
  obtain ⟨A, c, rfl, hs, hc, hm⟩ := hs
  go_enter Tryz.func66, Tryz.ntmps66
  go_wp2_with fail
  go_loopw [5, 8, 16] (fun v5 v8 v16 wr => ∃ k : Nat, k ≤ xs.length ∧ v8 = .int .i64 k ∧ Below w.heap.size w wr ∧ Hid (∀ i (hi : i < xs.length), i < k → p xs[i] = false)) (fun _ v8 _ _ => xs.length - (intOf v8).toNat)
  case atStart => exact ⟨0, Nat.zero_le _, rfl, Below.refl _ _, fun i hi h => by omega⟩
  case round =>
   obtain ⟨k, hk, rfl, hb, hno⟩ := hrel
   by_cases hlt : k < xs.length
   · obtain ⟨b, o, u0, u1, u2, rfl, hbw, hr, e0, e1, e2⟩ := (hs.mono hR hb).three k hlt
     have eg := hp.1
     unfold Enters at eg
     have hcall := Lib.hid (hp.2 wr _ _ hb hr)
     clear hr hs hR hp
     go_wp2_with fail
     refine hcall.out.mono ?_
     rintro e w1 ⟨rfl, hb1⟩
     clear eg
     by_cases hpk : p xs[k] = true
     · go_wp2
       go_ret
       exact ⟨ret_int (firstIdx_some p xs k hlt (fun i hi => hno.out i (by omega) hi) hpk).symm, below_tr hb hb1⟩
     · have hpk' : p xs[k] = false := by simpa using hpk
       clear hpk
       go_wp2
       go_roundw
       case rel => exact ⟨k + 1, by omega, by go_num, below_tr hb hb1, fun i hi h => by
          by_cases e : i = k
          · subst e; exact hpk'
          · exact hno.out i hi (by omega)⟩
       case measure => simp [intOf]; omega
   · go_wp2
     go_ret
     exact ⟨ret_int (firstIdx_none p xs (fun i hi => hno.out i hi (by omega))).symm, hb⟩

theorem any_event {α : Type} (R : RepT α) (hR : Mono R) (p : α → Bool) (v : Value) (xs : List α) (g : Nat) (lb : Array Value) (w : World)
   (hs : Sl 3 R w v xs) (hp : FnPred Tryz.prog w g lb R (fun cs => .agg cs.toArray) p) :
   Calls Tryz.prog 36 #[v, .func (.func g) #[] lb] w fun e w' => e = .returned (.bool (xs.any p)) ∧ Below w.heap.size w w' := by
  have HC := Lib.hid (idx_event R hR p v xs g lb w hs hp)
  obtain ⟨A, c, rfl, hs, hc, hm⟩ := hs
  clear hs hp hR
  go_enter Tryz.func36, Tryz.ntmps36
  go_wp2_with fail
  refine HC.out.mono ?_
  rintro e w1 ⟨rfl, hb1⟩
  go_wp2
  go_ret
  exact ⟨ret_bool (ret_idx p xs), hb1⟩

theorem idx_act {α : Type} (R : RepT α) (hR : Mono R) (p : α → Bool) (v : Value) (xs : List α) (g : Nat) (lb : Array Value) (w : World)
   (hs : Sl 3 R w v xs) (hp : FnPred Tryz.prog w g lb R (fun cs => .agg cs.toArray) p) :
   Calls Tryz.prog 67 #[v, .func (.func g) #[] lb] w fun e w' => e = .returned (.int .i64 (firstIdx p xs)) ∧ Below w.heap.size w w' := by
  obtain ⟨A, c, rfl, hs, hc, hm⟩ := hs
  go_enter Tryz.func67, Tryz.ntmps67
  go_wp2_with fail
  go_loopw [5, 8, 16] (fun v5 v8 v16 wr => ∃ k : Nat, k ≤ xs.length ∧ v8 = .int .i64 k ∧ Below w.heap.size w wr ∧ Hid (∀ i (hi : i < xs.length), i < k → p xs[i] = false)) (fun _ v8 _ _ => xs.length - (intOf v8).toNat)
  case atStart => exact ⟨0, Nat.zero_le _, rfl, Below.refl _ _, fun i hi h => by omega⟩
  case round =>
   obtain ⟨k, hk, rfl, hb, hno⟩ := hrel
   by_cases hlt : k < xs.length
   · obtain ⟨b, o, u0, u1, u2, rfl, hbw, hr, e0, e1, e2⟩ := (hs.mono hR hb).three k hlt
     have eg := hp.1
     unfold Enters at eg
     have hcall := Lib.hid (hp.2 wr _ _ hb hr)
     clear hr hs hR hp
     go_wp2_with fail
     refine hcall.out.mono ?_
     rintro e w1 ⟨rfl, hb1⟩
     clear eg
     by_cases hpk : p xs[k] = true
     · go_wp2
       go_ret
       exact ⟨ret_int (firstIdx_some p xs k hlt (fun i hi => hno.out i (by omega) hi) hpk).symm, below_tr hb hb1⟩
     · have hpk' : p xs[k] = false := by simpa using hpk
       clear hpk
       go_wp2
       go_roundw
       case rel => exact ⟨k + 1, by omega, by go_num, below_tr hb hb1, fun i hi h => by
          by_cases e : i = k
          · subst e; exact hpk'
          · exact hno.out i hi (by omega)⟩
       case measure => simp [intOf]; omega
   · go_wp2
     go_ret
     exact ⟨ret_int (firstIdx_none p xs (fun i hi => hno.out i hi (by omega))).symm, hb⟩

theorem any_act {α : Type} (R : RepT α) (hR : Mono R) (p : α → Bool) (v : Value) (xs : List α) (g : Nat) (lb : Array Value) (w : World)
   (hs : Sl 3 R w v xs) (hp : FnPred Tryz.prog w g lb R (fun cs => .agg cs.toArray) p) :
   Calls Tryz.prog 39 #[v, .func (.func g) #[] lb] w fun e w' => e = .returned (.bool (xs.any p)) ∧ Below w.heap.size w w' := by
  have HC := Lib.hid (idx_act R hR p v xs g lb w hs hp)
  obtain ⟨A, c, rfl, hs, hc, hm⟩ := hs
  clear hs hp hR
  go_enter Tryz.func39, Tryz.ntmps39
  go_wp2_with fail
  refine HC.out.mono ?_
  rintro e w1 ⟨rfl, hb1⟩
  go_wp2
  go_ret
  exact ⟨ret_bool (ret_idx p xs), hb1⟩

theorem idx_source {α : Type} (R : RepT α) (hR : Mono R) (p : α → Bool) (v : Value) (xs : List α) (g : Nat) (lb : Array Value) (w : World)
   (hs : Sl 1 R w v xs) (hp : FnPred Tryz.prog w g lb R (fun cs => cs.headD undef) p) :
   Calls Tryz.prog 92 #[v, .func (.func g) #[] lb] w fun e w' => e = .returned (.int .i64 (firstIdx p xs)) ∧ Below w.heap.size w w' := by
  obtain ⟨A, c, rfl, hs, hc, hm⟩ := hs
  go_enter Tryz.func92, Tryz.ntmps92
  go_wp2_with fail
  go_loopw [5, 8, 16] (fun v5 v8 v16 wr => ∃ k : Nat, k ≤ xs.length ∧ v8 = .int .i64 k ∧ Below w.heap.size w wr ∧ Hid (∀ i (hi : i < xs.length), i < k → p xs[i] = false)) (fun _ v8 _ _ => xs.length - (intOf v8).toNat)
  case atStart => exact ⟨0, Nat.zero_le _, rfl, Below.refl _ _, fun i hi h => by omega⟩
  case round =>
   obtain ⟨k, hk, rfl, hb, hno⟩ := hrel
   by_cases hlt : k < xs.length
   · obtain ⟨b, o, u0, rfl, hbw, hr, e0⟩ := (hs.mono hR hb).one k hlt
     have eg := hp.1
     unfold Enters at eg
     have hcall := Lib.hid (hp.2 wr _ _ hb hr)
     clear hr hs hR hp
     go_wp2_with fail
     refine hcall.out.mono ?_
     rintro e w1 ⟨rfl, hb1⟩
     clear eg
     by_cases hpk : p xs[k] = true
     · go_wp2
       go_ret
       exact ⟨ret_int (firstIdx_some p xs k hlt (fun i hi => hno.out i (by omega) hi) hpk).symm, below_tr hb hb1⟩
     · have hpk' : p xs[k] = false := by simpa using hpk
       clear hpk
       go_wp2
       go_roundw
       case rel => exact ⟨k + 1, by omega, by go_num, below_tr hb hb1, fun i hi h => by
          by_cases e : i = k
          · subst e; exact hpk'
          · exact hno.out i hi (by omega)⟩
       case measure => simp [intOf]; omega
   · go_wp2
     go_ret
     exact ⟨ret_int (firstIdx_none p xs (fun i hi => hno.out i hi (by omega))).symm, hb⟩

theorem any_source {α : Type} (R : RepT α) (hR : Mono R) (p : α → Bool) (v : Value) (xs : List α) (g : Nat) (lb : Array Value) (w : World)
   (hs : Sl 1 R w v xs) (hp : FnPred Tryz.prog w g lb R (fun cs => cs.headD undef) p) :
   Calls Tryz.prog 62 #[v, .func (.func g) #[] lb] w fun e w' => e = .returned (.bool (xs.any p)) ∧ Below w.heap.size w w' := by
  have HC := Lib.hid (idx_source R hR p v xs g lb w hs hp)
  obtain ⟨A, c, rfl, hs, hc, hm⟩ := hs
  clear hs hp hR
  go_enter Tryz.func62, Tryz.ntmps62
  go_wp2_with fail
  refine HC.out.mono ?_
  rintro e w1 ⟨rfl, hb1⟩
  go_wp2
  go_ret
  exact ⟨ret_bool (ret_idx p xs), hb1⟩

end Go.Proofs.YtljbclkbmjjmdaaGreatDoor
