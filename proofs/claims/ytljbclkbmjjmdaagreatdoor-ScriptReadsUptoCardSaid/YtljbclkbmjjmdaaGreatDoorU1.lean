/- Digits; no program in sight. -/
import Derived.Test.YtljbclkbmjjmdaaGreatDoorJ
import Derived.Test.YtljbclkbmjjmdaaGreatDoorS1
import Derived.Deep.CutBlock
import Derived.Deep.DeepCutAuto
import Derived.Test.YtljbclkbmjjmdaaGreatDoorP5
namespace Go.Proofs.YtljbclkbmjjmdaaGreatDoor
open Go.RowKit Go.Lib
def isDig (c : UInt8) : Bool := decide (48 ≤ c.toNat ∧ c.toNat ≤ 57)
theorem isDig_iff (c : UInt8) : isDig c = true ↔ 48 ≤ c.toNat ∧ c.toNat ≤ 57 := by simp [isDig]
def valStep (a : Nat) (c : UInt8) : Nat := 10 * a + (c.toNat - 48)
def valL (l : List UInt8) : Nat := l.foldl valStep 0
theorem valL_snoc (l : List UInt8) (c : UInt8) : valL (l ++ [c]) = 10 * valL l + (c.toNat - 48) := by simp [valL, valStep]
theorem val_acc : ∀ (l : List UInt8) (a : Nat), l.foldl valStep a = a * 10 ^ l.length + valL l
  | [], a => by simp [valL]
  | c :: r, a => by
    have h1 := val_acc r (valStep a c)
    have h2 := val_acc r (valStep 0 c)
    unfold valL
    rw [List.foldl_cons, List.foldl_cons, h1, h2, List.length_cons, Nat.pow_succ]
    unfold valStep
    rw [Nat.mul_zero, Nat.zero_add, Nat.add_mul, ← Nat.add_assoc]
    congr 2
    rw [Nat.mul_comm 10 a, Nat.mul_assoc, Nat.mul_comm 10]
theorem valL_cons (c : UInt8) (r : List UInt8) : valL (c :: r) = (c.toNat - 48) * 10 ^ r.length + valL r := by
  have := val_acc r (valStep 0 c)
  unfold valL
  rw [List.foldl_cons, this]
  simp [valStep, valL]
theorem val_take_le (l : List UInt8) (k : Nat) : valL (l.take k) ≤ valL l := by
  have h : valL l = valL (l.take k) * 10 ^ (l.drop k).length + valL (l.drop k) := by
    have := val_acc (l.drop k) (valL (l.take k))
    unfold valL at this ⊢
    rw [← List.foldl_append, List.take_append_drop] at this
    exact this
  have h1 : 1 ≤ 10 ^ (l.drop k).length := Nat.one_le_pow _ _ (by omega)
  have h2 : valL (l.take k) * 1 ≤ valL (l.take k) * 10 ^ (l.drop k).length := Nat.mul_le_mul_left _ h1
  omega
theorem val_take_snoc (l : List UInt8) (k : Nat) (h : k < l.length) : valL (l.take (k + 1)) = 10 * valL (l.take k) + (l[k].toNat - 48) := by
  rw [List.take_succ_eq_append_getElem h, valL_snoc]
theorem valL_lt : ∀ l : List UInt8, (∀ c ∈ l, isDig c = true) → valL l < 10 ^ l.length
  | [], _ => by simp [valL]
  | c :: r, h => by
    have h1 := valL_lt r (fun x hx => h x (by simp [hx]))
    have h2 := (isDig_iff c).1 (h c (by simp))
    rw [valL_cons, List.length_cons, Nat.pow_succ]
    have h3 : (c.toNat - 48) * 10 ^ r.length ≤ 9 * 10 ^ r.length := Nat.mul_le_mul_right _ (by omega)
    omega
theorem valL_pos {c : UInt8} {r : List UInt8} (hc : isDig c = true) (h0 : c ≠ 48) : 10 ^ r.length ≤ valL (c :: r) := by
  have h2 := (isDig_iff c).1 hc
  have h3 : c.toNat ≠ 48 := fun e => h0 (UInt8.toNat_inj.1 (by rw [e]; rfl))
  rw [valL_cons]
  have : 1 * 10 ^ r.length ≤ (c.toNat - 48) * 10 ^ r.length := Nat.mul_le_mul_right _ (by omega)
  omega
theorem lex_val : ∀ (a b : List UInt8), a.length = b.length → (∀ c ∈ a, isDig c = true) → (∀ c ∈ b, isDig c = true) → (Op.bytesLess a b = true ↔ valL a < valL b)
  | [], [], _, _, _ => by simp [Op.bytesLess]
  | x :: a, y :: b, h, ha, hb => by
    have hl : a.length = b.length := by simpa using h
    have ih := lex_val a b hl (fun c hc => ha c (by simp [hc])) (fun c hc => hb c (by simp [hc]))
    have ra := valL_lt a (fun c hc => ha c (by simp [hc]))
    have rb := valL_lt b (fun c hc => hb c (by simp [hc]))
    have hx := (isDig_iff x).1 (ha x (by simp))
    have hy := (isDig_iff y).1 (hb y (by simp))
    rw [valL_cons, valL_cons]
    rw [hl] at ra ⊢
    simp only [Op.bytesLess, Bool.or_eq_true, Bool.and_eq_true, decide_eq_true_eq, beq_iff_eq]
    rw [ih]
    rcases Nat.lt_trichotomy x.toNat y.toNat with hlt | heq | hgt
    · have h3 : (x.toNat - 48 + 1) * 10 ^ b.length ≤ (y.toNat - 48) * 10 ^ b.length := Nat.mul_le_mul_right _ (by omega)
      rw [Nat.add_mul, Nat.one_mul] at h3
      exact ⟨fun _ => by omega, fun _ => .inl hlt⟩
    · have e : x = y := UInt8.toNat_inj.1 heq
      subst e
      refine ⟨fun hh => ?_, fun hh => .inr ⟨rfl, by omega⟩⟩
      rcases hh with hh | ⟨_, hh⟩
      · exact absurd hh (by show ¬ x.toNat < x.toNat; omega)
      · omega
    · have h3 : (y.toNat - 48 + 1) * 10 ^ b.length ≤ (x.toNat - 48) * 10 ^ b.length := Nat.mul_le_mul_right _ (by omega)
      rw [Nat.add_mul, Nat.one_mul] at h3
      refine ⟨fun hh => ?_, fun hh => by omega⟩
      rcases hh with hh | ⟨e, _⟩
      · exact absurd hh (by show ¬ x.toNat < y.toNat; omega)
      · rw [e] at hgt; omega
  | [], _ :: _, h, _, _ => by simp at h
  | _ :: _, [], h, _, _ => by simp at h
theorem dec_val : ∀ (n : Nat) (l : List UInt8), l.length = n → l ≠ [] → (∀ c ∈ l, isDig c = true) → (1 < l.length → l.head? ≠ some 48) → decDigits (valL l) = l
  | 0, l, hn, h0, _, _ => absurd (List.length_eq_zero_iff.1 hn) h0
  | n + 1, l, hn, h0, hd, hh => by
    rcases List.eq_nil_or_concat l with rfl | ⟨r, c, rfl⟩
    · exact absurd rfl h0
    · rw [List.concat_eq_append] at *
      have hc := (isDig_iff c).1 (hd c (by simp))
      have hof : UInt8.ofNat (48 + (c.toNat - 48)) = c := by
        rw [show 48 + (c.toNat - 48) = c.toNat by omega]; exact UInt8.ofNat_toNat
      rw [valL_snoc, decDigits]
      cases r with
      | nil =>
        rw [dif_pos (by simp [valL]; omega)]
        simp [valL, hof]
      | cons x r =>
        have hx : x ≠ 48 := fun e => hh (by simp) (by simp [e])
        have hxd := hd x (by simp)
        have hp := valL_pos (r := r) hxd hx
        have hp1 : 1 ≤ 10 ^ r.length := Nat.one_le_pow _ _ (by omega)
        rw [dif_neg (by omega)]
        have e1 : (10 * valL (x :: r) + (c.toNat - 48)) / 10 = valL (x :: r) := by omega
        have e2 : (10 * valL (x :: r) + (c.toNat - 48)) % 10 = c.toNat - 48 := by omega
        rw [e1, e2, hof, dec_val n (x :: r) (by simpa using hn) (by simp) (fun y hy => hd y (by simp at hy ⊢; rcases hy with h | h; exact .inl h; exact .inr (.inl h))) (fun _ => by simpa using hx)]
theorem val_dec (u : Nat) : valL (decDigits u) = u := by
  induction u using Nat.strongRecOn with
  | _ u ih =>
    rw [decDigits]
    split
    · rename_i hu
      have e : (UInt8.ofNat (48 + u)).toNat = 48 + u := by simp; omega
      simp [valL, valStep]
      omega
    · rename_i hu
      have e : (UInt8.ofNat (48 + u % 10)).toNat = 48 + u % 10 := by simp; omega
      rw [valL_snoc, ih (u / 10) (by omega), e]
      omega
theorem dec_head (u : Nat) : 10 ≤ u → (decDigits u).head? ≠ some 48 := by
  induction u using Nat.strongRecOn with
  | _ u ih =>
    intro hu
    rw [decDigits, dif_neg (by omega)]
    rw [List.head?_append]
    by_cases h : u / 10 < 10
    · rw [decDigits, dif_pos h]
      simp only [List.head?_cons, Option.some_or]
      intro e
      have e := congrArg UInt8.toNat (Option.some.inj e)
      simp at e
      omega
    · have := ih (u / 10) (by omega) (by omega)
      cases hd : (decDigits (u / 10)).head? with
      | none => exact absurd (List.head?_eq_none_iff.1 hd) (dec_ne _)
      | some x => rw [hd] at this; simpa using this
def maxD : List UInt8 := [57, 50, 50, 51, 51, 55, 50, 48, 51, 54, 56, 53, 52, 55, 55, 53, 56, 48, 55]
theorem maxD_val : valL maxD = 9223372036854775807 := by decide
theorem maxD_dig : ∀ c ∈ maxD, isDig c = true := by decide
/-- What is asked of digits that shall be a number. -/
def NumOk (d : List UInt8) : Prop := d.length ≠ 0 ∧ ¬ (1 < d.length ∧ d.head? = some 48) ∧ d.length ≤ 19 ∧ ¬ (d.length = 19 ∧ Op.bytesLess maxD d = true)
theorem num_of_ok {d : List UInt8} (hd : ∀ c ∈ d, isDig c = true) (h : NumOk d) : NumL d (valL d) := by
  obtain ⟨h0, h1, h2, h3⟩ := h
  have hle : valL d ≤ 9223372036854775807 := by
    by_cases h19 : d.length = 19
    · have := lex_val maxD d (by rw [h19]; rfl) maxD_dig hd
      rw [maxD_val] at this
      rcases Nat.lt_or_ge 9223372036854775807 (valL d) with h' | h'
      · exact absurd ⟨h19, this.2 h'⟩ h3
      · exact h'
    · have h4 := valL_lt d hd
      have h5 : 10 ^ d.length ≤ 10 ^ 18 := Nat.pow_le_pow_right (by omega) (by omega)
      omega
  refine ⟨by rw [Wf.i64]; omega, ?_, by omega⟩
  rw [itoa_nonneg, dec_val d.length d rfl (fun e => h0 (by rw [e]; rfl)) hd (fun hl e => h1 ⟨hl, e⟩)]
theorem ok_of_num {d : List UInt8} {n : Int} (h : NumL d n) : (∀ c ∈ d, isDig c = true) ∧ NumOk d ∧ n = (valL d : Nat) := by
  obtain ⟨hw, hd, h0⟩ := h
  obtain ⟨u, rfl⟩ : ∃ u : Nat, n = (u : Int) := ⟨n.toNat, by omega⟩
  have hw := Wf.i64.1 hw
  rw [itoa_nonneg] at hd
  have hdig : ∀ c ∈ d, isDig c = true := fun c hc => (isDig_iff c).2 (dec_digit u c (by rw [← hd]; exact hc))
  have hv : valL d = u := by rw [hd, val_dec]
  refine ⟨hdig, ⟨?_, ?_, ?_, ?_⟩, by rw [hv]⟩
  · intro e; exact dec_ne u (by rw [← hd]; exact List.length_eq_zero_iff.1 e)
  · rintro ⟨h1, h2⟩
    by_cases h10 : 10 ≤ u
    · exact dec_head u h10 (by rw [← hd]; exact h2)
    · rw [hd, decDigits, dif_pos (by omega)] at h1
      simp at h1
  · rw [hd]; exact dec_len 18 u (by omega)
  · rintro ⟨h1, h2⟩
    have := (lex_val maxD d (by rw [h1]; rfl) maxD_dig hdig).1 h2
    rw [maxD_val, hv] at this
    omega
/-- The digits ahead. -/
def digPre (s : List UInt8) : List UInt8 := s.takeWhile isDig
theorem digPre_dig : ∀ (s : List UInt8), ∀ c ∈ digPre s, isDig c = true
  | [], c, hc => by simp [digPre] at hc
  | x :: r, c, hc => by
    unfold digPre at hc
    rw [List.takeWhile_cons] at hc
    split at hc
    · rename_i hx
      rcases List.mem_cons.1 hc with rfl | hc
      · exact hx
      · exact digPre_dig r c hc
    · simp at hc
theorem digPre_split (s : List UInt8) : s = digPre s ++ s.drop (digPre s).length := by
  have : digPre s = s.take (digPre s).length := by
    unfold digPre
    exact List.prefix_iff_eq_take.1 (List.takeWhile_prefix isDig)
  conv => lhs; rw [← List.take_append_drop (digPre s).length s]
  rw [← this]
theorem digPre_all {s : List UInt8} (h : ∀ c ∈ s, isDig c = true) : digPre s = s := by
  unfold digPre
  induction s with
  | nil => rfl
  | cons x r ih => rw [List.takeWhile_cons, h x (by simp)]; simp [ih (fun c hc => h c (by simp [hc]))]
theorem digPre_app {d r : List UInt8} (hd : ∀ c ∈ d, isDig c = true) (hr : ∀ c r', r = c :: r' → isDig c = false) : digPre (d ++ r) = d := by
  unfold digPre
  induction d with
  | nil =>
    cases r with
    | nil => rfl
    | cons c r' => rw [List.nil_append, List.takeWhile_cons, hr c r' rfl]; rfl
  | cons x d ih => rw [List.cons_append, List.takeWhile_cons, hd x (by simp)]; simp [ih (fun c hc => hd c (by simp [hc]))]
end Go.Proofs.YtljbclkbmjjmdaaGreatDoor
/- The walks of the reference's numbers. -/
namespace Go.Proofs.YtljbclkbmjjmdaaGreatDoor
open Go.RowKit Go.Shelf
theorem extr_take (s : ByteArray) (n : Nat) : (s.extract 0 n).data.toList = s.data.toList.take n := Lib.extract_from_zero s n
theorem extr_drop (s : ByteArray) (n : Nat) : (s.extract n s.size).data.toList = s.data.toList.drop n := Lib.extract_to_end s n
theorem mk_take (s : ByteArray) (n : Nat) : s.extract 0 n = ByteArray.mk (s.data.toList.take n).toArray := by rw [← extr_take]
theorem mk_drop (s : ByteArray) (n : Nat) : s.extract n s.size = ByteArray.mk (s.data.toList.drop n).toArray := by rw [← extr_drop]
theorem get_data (s : ByteArray) (k : Nat) (h : k < s.size) : s.data.toList[k]? = some s[k] := by
  have h' : k < s.data.toList.length := by rw [show s.data.toList.length = s.size from bytesL_length s]; exact h
  rw [List.getElem?_eq_getElem h']
  rfl
/-- What stands behind a beginning. -/
def AftPost (s b : ByteArray) (w : World) (e : Ending) (w' : World) : Prop :=
  Below w.heap.size w w' ∧ ((∃ r, s.data.toList = b.data.toList ++ r ∧ e = .returned (.tuple #[.string ⟨r.toArray⟩, .bool true])) ∨ ((∀ r, s.data.toList ≠ b.data.toList ++ r) ∧ e = .returned (.tuple #[.string s, .bool false])))
set_option maxHeartbeats 1000000 in
theorem after_ref (s b : ByteArray) (hs : WfS s) (hb : WfS b) (w : World) : Calls Tryz.prog 106 #[.string s, .string b] w (AftPost s b w) := by
  unfold WfS at hs hb
  have el : s.data.toList.length = s.size := bytesL_length s
  have eb : b.data.toList.length = b.size := bytesL_length b
  have HEL := Lib.hid (And.intro el eb)
  clear el eb
  by_cases hlt : s.size < b.size
  · go_enter Tryz.func106, Tryz.ntmps106
    go_wp2_with fail
    go_ret2
    refine ⟨Below.refl _ _, .inr ⟨fun r hr => ?_, rfl⟩⟩
    have := congrArg List.length hr
    rw [List.length_append, HEL.out.1, HEL.out.2] at this
    omega
  · by_cases he : s.extract 0 b.size = b
    · have hB : ((s.extract 0 b.size).toList == b.toList) = true := by rw [he]; simp
      have hsp : s.data.toList = b.data.toList ++ s.data.toList.drop b.size := by
        have := extr_take s b.size
        rw [he] at this
        conv => lhs; rw [← List.take_append_drop b.size s.data.toList]
        rw [← this]
      have hd := mk_drop s b.size
      have HSP := Lib.hid (And.intro hsp hd)
      clear he hsp hd
      go_enter Tryz.func106, Tryz.ntmps106
      go_wp2_with fail
      go_ret2
      refine ⟨Below.refl _ _, .inl ⟨_, HSP.out.1, ?_⟩⟩
      show Ending.returned (.tuple #[.string (s.extract b.size s.size), .bool true]) = _
      rw [HSP.out.2]
    · have hB : ((s.extract 0 b.size).toList == b.toList) = false := by
        rw [ByteArray.toList_eq, ByteArray.toList_eq, beq_eq_false_iff_ne]
        exact fun e => he (ba_ext e)
      have hno : ∀ r, s.data.toList ≠ b.data.toList ++ r := fun r hr => he (ba_ext (by
        rw [extr_take, hr, List.take_left' HEL.out.2]))
      have HNO := Lib.hid hno
      clear he hno
      go_enter Tryz.func106, Tryz.ntmps106
      go_wp2_with fail
      go_ret2
      exact ⟨Below.refl _ _, .inr ⟨HNO.out, rfl⟩⟩
/-- A number ahead of a text. -/
def NumbPost (s : ByteArray) (w : World) (e : Ending) (w' : World) : Prop :=
  Below w.heap.size w w' ∧ ((∃ n, NumL (digPre s.data.toList) n ∧ e = .returned (.tuple #[.int .i64 n, .string ⟨(s.data.toList.drop (digPre s.data.toList).length).toArray⟩, .bool true])) ∨ ((∀ n, ¬ NumL (digPre s.data.toList) n) ∧ e = .returned (.tuple #[.int .i64 0, .string s, .bool false])))
theorem pre_step {l : List UInt8} {k : Nat} {c : UInt8} (h : ∀ i, i < k → ∃ x, l[i]? = some x ∧ isDig x = true) (hc : l[k]? = some c) (hd : isDig c = false) : digPre l = l.take k := by
  have hk : k < l.length := (List.getElem?_eq_some_iff.1 hc).1
  have e : l = l.take k ++ l.drop k := (List.take_append_drop k l).symm
  conv => lhs; rw [e]
  refine digPre_app (fun x hx => ?_) (fun x r hx => ?_)
  · obtain ⟨i, hi, rfl⟩ := List.getElem_of_mem hx
    rw [List.length_take] at hi
    obtain ⟨y, hy, hyd⟩ := h i (by omega)
    rw [List.getElem_take]
    rw [List.getElem?_eq_getElem (by omega)] at hy
    injection hy with hy
    rw [hy]; exact hyd
  · rw [List.drop_eq_getElem_cons hk] at hx
    injection hx with hx _
    rw [List.getElem?_eq_getElem hk] at hc
    injection hc with hc
    rw [← hx, hc]; exact hd
theorem pre_all {l : List UInt8} (h : ∀ i, i < l.length → ∃ x, l[i]? = some x ∧ isDig x = true) : digPre l = l := by
  refine digPre_all fun x hx => ?_
  obtain ⟨i, hi, rfl⟩ := List.getElem_of_mem hx
  obtain ⟨y, hy, hyd⟩ := h i hi
  rw [List.getElem?_eq_getElem hi] at hy
  injection hy with hy
  rw [hy]; exact hyd
set_option maxHeartbeats 2000000 in
set_option maxRecDepth 100000 in
theorem number_ref (s : ByteArray) (hs : WfS s) (w : World) : Calls Tryz.prog 89 #[.string s] w (NumbPost s w) := by
  unfold WfS at hs
  have el : s.data.toList.length = s.size := bytesL_length s
  obtain ⟨D, hD⟩ : ∃ D, D = digPre s.data.toList := ⟨_, rfl⟩
  have hDl : D.length ≤ s.size := by rw [hD, ← el]; unfold digPre; exact (List.takeWhile_prefix _).length_le
  have HEL := Lib.hid el
  have HD := Lib.hid hD
  clear el hD
  go_enter Tryz.func89, Tryz.ntmps89
  go_upto_block 0 with fail
  go_cut [5] (fun v5 wx => v5 = .int .i64 D.length ∧ wx = w)
  case first =>
    go_wp2_with fail
    go_loop [5] (fun v5 => ∃ k : Nat, k ≤ s.size ∧ v5 = .int .i64 k ∧ Hid (∀ i, i < k → ∃ x, s.data.toList[i]? = some x ∧ isDig x = true)) (fun v5 => s.size - (intOf v5).toNat)
    case atStart => exact ⟨0, by omega, rfl, Lib.hid (fun i hi => by omega)⟩
    case round =>
      obtain ⟨k, hk, rfl, hdig⟩ := hrel
      by_cases hlt : k < s.size
      · have HG := Lib.hid (get_data s k hlt)
        by_cases h1 : 48 ≤ (s[k].toNat : Int)
        · by_cases h2 : (s[k].toNat : Int) ≤ 57
          · have HN := Lib.hid (show ∀ i, i < k + 1 → ∃ x, s.data.toList[i]? = some x ∧ isDig x = true from fun i hi => by
              by_cases e : i = k
              · subst e; exact ⟨_, HG.out, by rw [isDig_iff]; omega⟩
              · exact hdig.out i (by omega))
            go_wp2_with fail
            go_round
            case rel => exact ⟨k + 1, by omega, by go_num, HN⟩
            case measure => simp [intOf]; omega
          · have HP := Lib.hid (pre_step hdig.out HG.out (by rw [Bool.eq_false_iff]; intro h; rw [isDig_iff] at h; omega))
            have HL := Lib.hid (show k = D.length by rw [HD.out, HP.out, List.length_take, HEL.out]; omega)
            go_wp2_with fail
            go_meet
            case rel => exact ⟨by rw [← HL.out], rfl⟩
        · have HP := Lib.hid (pre_step hdig.out HG.out (by rw [Bool.eq_false_iff]; intro h; rw [isDig_iff] at h; omega))
          have HL := Lib.hid (show k = D.length by rw [HD.out, HP.out, List.length_take, HEL.out]; omega)
          go_wp2_with fail
          go_meet
          case rel => exact ⟨by rw [← HL.out], rfl⟩
      · have HL := Lib.hid (show k = D.length by rw [HD.out, pre_all (fun i hi => hdig.out i (by rw [HEL.out] at hi; omega)), HEL.out]; omega)
        go_wp2_with fail
        go_meet
        case rel => exact ⟨by rw [← HL.out], rfl⟩
  case rest =>
    obtain ⟨rfl, rfl⟩ := hcut
    have hsplit : s.data.toList = D ++ s.data.toList.drop D.length := by rw [HD.out]; exact digPre_split _
    have hdb : (s.extract 0 D.length).data.toList = D := by rw [extr_take, hsplit, List.take_left' rfl]
    have HSPL := Lib.hid (And.intro hsplit hdb)
    have hdig : ∀ c ∈ D, isDig c = true := by rw [HD.out]; exact digPre_dig _
    have HDIG := Lib.hid hdig
    clear hsplit hdb hdig
    by_cases hok : NumOk D
    · have HNL := Lib.hid (num_of_ok HDIG.out hok)
      obtain ⟨k0, k1, k2, k3⟩ := hok
      go_upto_region 5 with fail
      go_cut [52] (fun v52 wx => v52 = .bool false ∧ wx = wc)
      case first =>
        have hb0 : ((D.length : Int) == 0) = false := by rw [beq_eq_false_iff_ne]; omega
        have hs0 : 0 < s.size := by omega
        by_cases h1 : 1 < D.length
        · have hb1 : ((s[0].toNat : Int) == 48) = false := by
            rw [beq_eq_false_iff_ne]
            intro e
            refine k1 ⟨h1, ?_⟩
            have h2 := get_data s 0 hs0
            rw [HSPL.out.1, List.getElem?_append_left (by omega)] at h2
            rw [List.head?_eq_getElem?, h2]
            congr 1
            exact UInt8.toNat_inj.1 (by show s[0].toNat = 48; omega)
          by_cases h19 : D.length = 19
          · have hb19 : ((D.length : Int) == 19) = true := by rw [beq_iff_eq]; omega
            have hle : valL D ≤ valL maxD := by
              rcases Nat.lt_or_ge (valL maxD) (valL D) with h | h
              · exact absurd ⟨h19, (lex_val maxD D (by rw [h19]; rfl) maxD_dig HDIG.out).2 h⟩ k3
              · exact h
            have hor : Op.bytesLess (s.extract 0 D.length).toList [57, 50, 50, 51, 51, 55, 50, 48, 51, 54, 56, 53, 52, 55, 55, 53, 56, 48, 55] = true ∨ ((s.extract 0 D.length).toList == [57, 50, 50, 51, 51, 55, 50, 48, 51, 54, 56, 53, 52, 55, 55, 53, 56, 48, 55]) = true := by
              rw [ByteArray.toList_eq, HSPL.out.2]
              rcases Nat.lt_or_ge (valL D) (valL maxD) with h | h
              · exact .inl ((lex_val D maxD (by rw [h19]; rfl) HDIG.out maxD_dig).2 h)
              · right
                rw [beq_iff_eq]
                have e1 := dec_val D.length D rfl (fun e => k0 (by rw [e]; rfl)) HDIG.out (fun hl e => k1 ⟨hl, e⟩)
                have e2 := dec_val maxD.length maxD rfl (by decide) maxD_dig (by decide)
                rw [← e1, show valL D = valL maxD by omega, e2]
                rfl
            clear hle k3 k1 h19
            rcases hor with hx | hx
            all_goals
              go_wp2_with fail
              go_meet
              case rel => exact ⟨by first | rfl | (simp; done) | (simp; omega), rfl⟩
          · have hb19 : ((D.length : Int) == 19) = false := by rw [beq_eq_false_iff_ne]; omega
            have hd19 : decide ((19 : Int) < D.length) = false := by simp; omega
            clear k1 k3
            go_wp2_with fail
            go_meet
            case rel => exact ⟨by first | rfl | (simp; done) | (simp; omega), rfl⟩
        · have hb19 : ((D.length : Int) == 19) = false := by rw [beq_eq_false_iff_ne]; omega
          have hd19 : decide ((19 : Int) < D.length) = false := by simp; omega
          have hd1 : decide ((1 : Int) < D.length) = false := by simp; omega
          clear k1 k3
          go_wp2_with fail
          go_meet
          case rel => exact ⟨by first | rfl | (simp; done) | (simp; omega), rfl⟩
      case rest =>
        obtain ⟨rfl, rfl⟩ := hcut
        clear k1 k3
        have hmax : valL D ≤ 9223372036854775807 := by have := Wf.i64.1 HNL.out.1; omega
        go_wp2_with fail
        go_loop [7, 8] (fun v7 v8 => ∃ k : Nat, k ≤ D.length ∧ v8 = .int .i64 k ∧ v7 = .int .i64 (valL (D.take k) : Nat)) (fun _ v8 => D.length - (intOf v8).toNat)
        case atStart => exact ⟨0, by omega, rfl, rfl⟩
        case round =>
          obtain ⟨k, hk, rfl, rfl⟩ := hrel
          by_cases hlt : k < D.length
          · have hsn := val_take_snoc D k hlt
            have htl := val_take_le D (k + 1)
            have hdg := (isDig_iff _).1 (HDIG.out _ (List.getElem_mem hlt))
            have hkx : k < (s.extract 0 D.length).size := by simp; omega
            have hcc : (s.extract 0 D.length)[k] = D[k] := by
              have h2 := get_data (s.extract 0 D.length) k hkx
              rw [HSPL.out.2, List.getElem?_eq_getElem hlt] at h2
              exact (Option.some.inj h2).symm
            obtain ⟨V, hV⟩ : ∃ V, V = valL (D.take k) := ⟨_, rfl⟩
            rw [← hV] at hsn ⊢
            have HV := Lib.hid (And.intro hV hsn)
            have hd1 : 48 ≤ (s.extract 0 D.length)[k].toNat := by rw [hcc]; exact hdg.1
            have hd2 : (s.extract 0 D.length)[k].toNat ≤ 57 := by rw [hcc]; exact hdg.2
            have hb2 : 10 * (V : Int) + 9 ≤ 9223372036854775807 + 9 := by omega
            have hb3 : 10 * (V : Int) + ((s.extract 0 D.length)[k].toNat - 48) ≤ 9223372036854775807 := by rw [hcc]; omega
            have HC := Lib.hid hcc
            clear hsn htl hdg hV hcc
            have hfin : (10 * (V : Int) + (((s.extract 0 D.length)[k].toNat : Int) - 48)) = ((valL (D.take (k + 1)) : Nat) : Int) := by rw [HV.out.2, HC.out]; have := (isDig_iff _).1 (HDIG.out _ (List.getElem_mem hlt)); omega
            have HF := Lib.hid hfin
            clear hfin
            go_wp2_with fail
            go_round
            case rel => exact ⟨k + 1, by omega, by go_num, by rw [HF.out]⟩
            case measure => simp [intOf]; omega
          · obtain rfl : k = D.length := by omega
            rw [List.take_length]
            have hi0 : (0 : Int) ≤ D.length := by omega
            have hi1 : (D.length : Int) ≤ s.size := by omega
            have HDR := Lib.hid (mk_drop s D.length)
            go_wp2_with fail
            go_quiet (fail)
            go_wp2_with fail
            go_ret3
            refine ⟨below_drewN (Below.refl _ _) _, .inl ⟨(valL D : Nat), by rw [← HD.out]; exact HNL.out, ?_⟩⟩
            rw [← HD.out, ← HDR.out]
            rfl
    · have HNO := Lib.hid (show ∀ n, ¬ NumL (digPre s.data.toList) n from fun n hn => by rw [← HD.out] at hn; exact hok (ok_of_num hn).2.1)
      have HRET : Hid (∀ w', w' = wc → NumbPost s wc (.returned (.tuple #[.int .i64 0, .string s, .bool false])) w') := Lib.hid (fun w' e => by subst e; exact ⟨Below.refl _ _, .inr ⟨HNO.out, rfl⟩⟩)
      by_cases h0 : D.length = 0
      · have hb0 : ((D.length : Int) == 0) = true := by rw [beq_iff_eq]; omega
        clear h0 hok
        go_wp2_with fail
        go_ret3
        exact HRET.out _ rfl
      · have hb0 : ((D.length : Int) == 0) = false := by rw [beq_eq_false_iff_ne]; omega
        have hs0 : 0 < s.size := by omega
        by_cases h48 : 1 < D.length ∧ D.head? = some 48
        · have hb1 : ((s[0].toNat : Int) == 48) = true := by
            have h2 := get_data s 0 hs0
            rw [HSPL.out.1, List.getElem?_append_left (by omega), ← List.head?_eq_getElem?, h48.2] at h2
            rw [← Option.some.inj h2]; rfl
          have h1 := h48.1
          clear h48 hok
          go_wp2_with fail
          go_ret3
          exact HRET.out _ rfl
        · have key : ∀ b, ((s[0].toNat : Int) == 48) = b → 1 < D.length → b = false := fun b hb h1 => by
            rw [← hb, beq_eq_false_iff_ne]
            intro e
            refine h48 ⟨h1, ?_⟩
            have h2 := get_data s 0 hs0
            rw [HSPL.out.1, List.getElem?_append_left (by omega)] at h2
            rw [List.head?_eq_getElem?, h2]
            congr 1
            exact UInt8.toNat_inj.1 (by show s[0].toNat = 48; omega)
          by_cases h19 : 19 < D.length
          · have hb1 := key _ rfl (by omega)
            clear h48 hok key
            go_wp2_with fail
            go_ret3
            exact HRET.out _ rfl
          · have he19 : D.length = 19 ∧ Op.bytesLess maxD D = true := Decidable.byContradiction fun h => hok ⟨h0, h48, by omega, h⟩
            have hb1 := key _ rfl (by omega)
            have hb19 : ((D.length : Int) == 19) = true := by rw [beq_iff_eq]; omega
            have hgt := (lex_val maxD D (by rw [he19.1]; rfl) maxD_dig HDIG.out).1 he19.2
            have hx1 : Op.bytesLess (s.extract 0 D.length).toList [57, 50, 50, 51, 51, 55, 50, 48, 51, 54, 56, 53, 52, 55, 55, 53, 56, 48, 55] = false := by
              rw [ByteArray.toList_eq, HSPL.out.2, Bool.eq_false_iff]
              intro h
              have := (lex_val D maxD (by rw [he19.1]; rfl) HDIG.out maxD_dig).1 h
              omega
            have hx2 : ((s.extract 0 D.length).toList == [57, 50, 50, 51, 51, 55, 50, 48, 51, 54, 56, 53, 52, 55, 55, 53, 56, 48, 55]) = false := by
              rw [ByteArray.toList_eq, HSPL.out.2, beq_eq_false_iff_ne]
              intro h
              have h' : D = maxD := h
              rw [h'] at hgt
              omega
            have hl1 : 1 < D.length := by omega
            clear h48 hok key hgt he19
            go_wp2_with fail
            go_ret3
            exact HRET.out _ rfl
end Go.Proofs.YtljbclkbmjjmdaaGreatDoor
/- The walks of the reference's whole numbers, signed numbers, and of a text's parts. -/
namespace Go.Proofs.YtljbclkbmjjmdaaGreatDoor
open Go.RowKit Go.Shelf
def N24Post (s : ByteArray) (w : World) (e : Ending) (w' : World) : Prop := ∃ n b, e = .returned (.tuple #[.int .i64 n, .bool b]) ∧ Wf .i64 n ∧ 0 ≤ n ∧ Below w.heap.size w w' ∧ ((b = true ∧ NumL (bytesL s) n) ∨ (b = false ∧ ∀ v, ¬ NumL (bytesL s) v))
set_option maxHeartbeats 1000000 in
theorem number24 (s : ByteArray) (hs : WfS s) (w : World) : Calls Tryz.prog 53 #[.string s] w (N24Post s w) := by
  have HN := Lib.hid (number_ref s hs w)
  go_enter Tryz.func53, Tryz.ntmps53
  go_wp2_with (go_at_call 89; (with_reducible refine HN.out.mono ?_))
  rintro e w1 ⟨hb1, hc⟩
  rcases hc with ⟨n, hn, rfl⟩ | ⟨hno, rfl⟩
  · obtain ⟨R, hR⟩ : ∃ R, R = ByteArray.mk (s.data.toList.drop (digPre s.data.toList).length).toArray := ⟨_, rfl⟩
    rw [← hR]
    have hRd : R.data.toList = s.data.toList.drop (digPre s.data.toList).length := by rw [hR]
    have hsp := digPre_split s.data.toList
    rw [← hRd] at hsp
    have HSP := Lib.hid (And.intro hsp hn)
    have hw := hn.1
    have hw0 := hn.2.2
    clear hR hRd hsp hn
    by_cases he : R.data.toList = []
    · have he1 : (R.toList == []) = true := by rw [ByteArray.toList_eq, he]; rfl
      have he2 : R.toList.isEmpty = true := by rw [ByteArray.toList_eq, he]; rfl
      have HE := Lib.hid he
      clear he
      go_wp2_with fail
      go_ret2
      refine ⟨n, true, rfl, hw, hw0, hb1, .inl ⟨rfl, ?_⟩⟩
      have h1 := HSP.out.1
      rw [HE.out, List.append_nil] at h1
      show NumL s.data.toList n
      rw [h1]
      exact HSP.out.2
    · have he1 : (R.toList == []) = false := by rw [ByteArray.toList_eq, beq_eq_false_iff_ne]; exact he
      have he2 : R.toList.isEmpty = false := by rw [ByteArray.toList_eq, List.isEmpty_eq_false_iff]; exact he
      have HE := Lib.hid he
      clear he
      go_wp2_with fail
      go_ret2
      refine ⟨n, false, rfl, hw, hw0, hb1, .inr ⟨rfl, fun v hv => HE.out ?_⟩⟩
      have h1 := HSP.out.1
      have hv' : NumL s.data.toList v := hv
      rw [digPre_all (ok_of_num hv').1] at h1
      have h2 := congrArg List.length h1
      rw [List.length_append] at h2
      exact List.length_eq_zero_iff.1 (by omega)
  · have HNO := Lib.hid hno
    clear hno
    go_wp2_with fail
    go_ret2
    refine ⟨0, false, rfl, by rw [Wf.i64]; omega, by omega, hb1, .inr ⟨rfl, fun v hv => HNO.out v ?_⟩⟩
    have hv' : NumL s.data.toList v := hv
    rw [digPre_all (ok_of_num hv').1]
    exact hv'
def minS : List UInt8 := [45, 57, 50, 50, 51, 51, 55, 50, 48, 51, 54, 56, 53, 52, 55, 55, 53, 56, 48, 56]
def minD : List UInt8 := [57, 50, 50, 51, 51, 55, 50, 48, 51, 54, 56, 53, 52, 55, 55, 53, 56, 48, 56]
theorem minD_val : valL minD = 9223372036854775808 := by decide
theorem min_dec : Lib.decDigits 9223372036854775808 = minD := by rw [← minD_val]; exact dec_val minD.length minD rfl (by decide) (by decide) (by decide)
theorem itoa_min : Lib.itoa (-9223372036854775808) = minS := by
  have := Lib.itoa_neg 9223372036854775808 (by omega)
  rw [min_dec] at this
  exact this
theorem isnum_neg {l : List UInt8} {v : Int} (hw : Wf .i64 v) (h : l = Lib.itoa v) (hv : v < 0) : ∃ u : Nat, v = -(u : Int) ∧ 0 < u ∧ u ≤ 9223372036854775808 ∧ l = 45 :: Lib.decDigits u := by
  have := Wf.i64.1 hw
  refine ⟨v.natAbs, by omega, by omega, by omega, ?_⟩
  rw [h, show v = -(v.natAbs : Int) by omega, Lib.itoa_neg _ (by omega)]
  simp
def SigPost (s : ByteArray) (w : World) (e : Ending) (w' : World) : Prop := ∃ n b, e = .returned (.tuple #[.int .i64 n, .bool b]) ∧ Wf .i64 n ∧ Below w.heap.size w w' ∧ ((b = true ∧ IsNum s n) ∨ (b = false ∧ ∀ v, ¬ IsNum s v))
set_option maxHeartbeats 1000000 in
theorem signed_ref (s : ByteArray) (hs : WfS s) (w : World) : Calls Tryz.prog 86 #[.string s] w (SigPost s w) := by
  have hs' := hs
  unfold WfS at hs'
  have el : s.data.toList.length = s.size := bytesL_length s
  by_cases h1 : s.data.toList = minS
  · have hB : (s.toList == [45, 57, 50, 50, 51, 51, 55, 50, 48, 51, 54, 56, 53, 52, 55, 55, 53, 56, 48, 56]) = true := by rw [ByteArray.toList_eq, beq_iff_eq]; exact h1
    have H1 := Lib.hid h1
    clear h1 el
    go_enter Tryz.func86, Tryz.ntmps86
    go_wp2_with fail
    go_ret2
    exact ⟨_, true, rfl, by rw [Wf.i64]; omega, Below.refl _ _, .inl ⟨rfl, by rw [Wf.i64]; omega, by rw [H1.out, itoa_min]⟩⟩
  · have hB : (s.toList == [45, 57, 50, 50, 51, 51, 55, 50, 48, 51, 54, 56, 53, 52, 55, 55, 53, 56, 48, 56]) = false := by rw [ByteArray.toList_eq, beq_eq_false_iff_ne]; exact h1
    have H1 := Lib.hid h1
    by_cases h2 : 1 < s.size ∧ s.data.toList.head? = some 45
    · obtain ⟨h2, h3⟩ := h2
      clear el
      have hs00 : 0 < s.size := Nat.lt_trans Nat.zero_lt_one h2
      obtain ⟨r, hr⟩ : ∃ r, s.data.toList = 45 :: r := by
        cases hc : s.data.toList with
        | nil => rw [hc] at h3; cases h3
        | cons x r => rw [hc] at h3; exact ⟨r, by rw [Option.some.inj h3]⟩
      have hg := get_data s 0 hs00
      rw [hr] at hg
      have hb0 : ((s[0].toNat : Int) == 45) = true := by rw [← Option.some.inj hg]; rfl
      have hx : (s.extract 1 s.size).data.toList = r := by rw [extr_drop, hr]; rfl
      have HN := Lib.hid (number24 (s.extract 1 s.size) (by unfold WfS; simp; omega) w)
      have HX := Lib.hid (And.intro hr hx)
      clear h1 h3 hr hx hg
      go_enter Tryz.func86, Tryz.ntmps86
      go_wp2_with (go_at_call 53; (with_reducible refine HN.out.mono ?_))
      rintro e w1 ⟨n, b, rfl, hw, hn0, hb1, hc⟩
      have hw' := Wf.i64.1 hw
      rcases hc with ⟨rfl, hy⟩ | ⟨rfl, hno⟩
      · have h0 := hy.2.2
        have HY := Lib.hid hy
        clear hy
        by_cases hp : 0 < n
        · go_wp2_with fail
          go_ret2
          refine ⟨-n, true, by first | rfl | simp [hp], by rw [Wf.i64]; omega, hb1, .inl ⟨rfl, by rw [Wf.i64]; omega, ?_⟩⟩
          obtain ⟨u, rfl⟩ : ∃ u : Nat, n = (u : Int) := ⟨n.toNat, by omega⟩
          rw [HX.out.1, Lib.itoa_neg u (by omega)]
          have h3 := HY.out.2.1
          rw [Lib.itoa_nonneg] at h3
          rw [← HX.out.2]
          exact congrArg (45 :: ·) h3
        · obtain rfl : n = 0 := by omega
          go_wp2_with fail
          go_ret2
          refine ⟨0, false, rfl, by rw [Wf.i64]; omega, hb1, .inr ⟨rfl, fun v hv => ?_⟩⟩
          have hl := hv.2
          rw [HX.out.1] at hl
          by_cases hvn : v < 0
          · obtain ⟨u, _, hu, _, hl2⟩ := isnum_neg hv.1 hl hvn
            injection hl2 with _ hl2
            have h3 := HY.out.2.1
            have h4 : bytesL (s.extract 1 s.size) = r := HX.out.2
            rw [h4, hl2, show (0 : Int) = ((0 : Nat) : Int) from rfl, Lib.itoa_nonneg] at h3
            have h5 := val_dec u
            rw [h3, val_dec] at h5
            omega
          · rw [show v = ((v.toNat : Nat) : Int) by omega, Lib.itoa_nonneg] at hl
            have := dec_digit v.toNat 45 (by rw [← hl]; simp)
            simp at this
      · have HNO := Lib.hid hno
        clear hno
        go_wp2_with fail
        go_ret2
        refine ⟨-n, false, by first | rfl | simp, by rw [Wf.i64]; omega, hb1, .inr ⟨rfl, fun v hv => ?_⟩⟩
        have hl := hv.2
        rw [HX.out.1] at hl
        by_cases hvn : v < 0
        · obtain ⟨u, _, hu, hum, hl2⟩ := isnum_neg hv.1 hl hvn
          injection hl2 with _ hl2
          have h4 : bytesL (s.extract 1 s.size) = r := HX.out.2
          by_cases hmx : u = 9223372036854775808
          · rw [hmx, min_dec] at hl2
            exact H1.out (by rw [HX.out.1, hl2]; rfl)
          · exact HNO.out u ⟨by rw [Wf.i64]; omega, by rw [h4, hl2, Lib.itoa_nonneg], by omega⟩
        · rw [show v = ((v.toNat : Nat) : Int) by omega, Lib.itoa_nonneg] at hl
          have := dec_digit v.toNat 45 (by rw [← hl]; simp)
          simp at this
    · have HN := Lib.hid (number24 s hs w)
      have H2 := Lib.hid h2
      have HEL := Lib.hid el
      have hfin : ∀ v, IsNum s v → 0 ≤ v := fun v hv => by
        rcases Int.lt_or_le v 0 with hvn | h
        · obtain ⟨u, _, hu, _, hl2⟩ := isnum_neg hv.1 hv.2 hvn
          exfalso
          refine H2.out ⟨?_, by rw [hl2]; rfl⟩
          have h4 := congrArg List.length hl2
          rw [HEL.out, List.length_cons] at h4
          have : (Lib.decDigits u).length ≠ 0 := fun e => dec_ne u (List.length_eq_zero_iff.1 e)
          omega
        · exact h
      have HFIN := Lib.hid hfin
      clear h1 el hfin
      by_cases h3 : 1 < s.size
      · have hs00 : 0 < s.size := Nat.lt_trans Nat.zero_lt_one h3
        have hb0 : ((s[0].toNat : Int) == 45) = false := by
          rw [beq_eq_false_iff_ne]
          intro e
          refine h2 ⟨h3, ?_⟩
          rw [List.head?_eq_getElem?, get_data s 0 hs00]
          congr 1
          exact UInt8.toNat_inj.1 (by show s[0].toNat = 45; omega)
        clear h2
        go_enter Tryz.func86, Tryz.ntmps86
        go_wp2_with (go_at_call 53; (with_reducible refine HN.out.mono ?_))
        rintro e w1 ⟨n, b, rfl, hw, hn0, hb1, hc⟩
        have HC := Lib.hid hc
        clear hc
        go_wp2_with fail
        go_ret2
        refine ⟨n, b, rfl, hw, hb1, ?_⟩
        rcases HC.out with ⟨h4, h5⟩ | ⟨h4, h5⟩
        · exact .inl ⟨h4, h5.1, h5.2.1⟩
        · exact .inr ⟨h4, fun v hv => h5 v ⟨hv.1, hv.2, HFIN.out v hv⟩⟩
      · clear h2
        go_enter Tryz.func86, Tryz.ntmps86
        go_wp2_with (go_at_call 53; (with_reducible refine HN.out.mono ?_))
        rintro e w1 ⟨n, b, rfl, hw, hn0, hb1, hc⟩
        have HC := Lib.hid hc
        clear hc
        go_wp2_with fail
        go_ret2
        refine ⟨n, b, rfl, hw, hb1, ?_⟩
        rcases HC.out with ⟨h4, h5⟩ | ⟨h4, h5⟩
        · exact .inl ⟨h4, h5.1, h5.2.1⟩
        · exact .inr ⟨h4, fun v hv => h5 v ⟨hv.1, hv.2, HFIN.out v hv⟩⟩
theorem cut1_at {c : UInt8} {l : List UInt8} {k : Nat} (hk : l[k]? = some c) (h : ∀ i, i < k → l[i]? ≠ some c) : cut1 c l = (l.take k, l.drop (k + 1), true) := by
  have hlt : k < l.length := (List.getElem?_eq_some_iff.1 hk).1
  have e : l = l.take k ++ c :: l.drop (k + 1) := by
    conv => lhs; rw [← List.take_append_drop k l]
    rw [List.drop_eq_getElem_cons hlt]
    rw [List.getElem?_eq_getElem hlt] at hk
    rw [Option.some.inj hk]
  conv => lhs; rw [e]
  refine cut1_app c _ _ fun hm => ?_
  obtain ⟨i, hi, hx⟩ := List.getElem_of_mem hm
  rw [List.length_take] at hi
  refine h i (by omega) ?_
  rw [List.getElem?_eq_getElem (by omega)]
  rw [List.getElem_take] at hx
  rw [hx]
theorem cut1_no {c : UInt8} {l : List UInt8} (h : ∀ i, i < l.length → l[i]? ≠ some c) : cut1 c l = (l, [], false) := by
  refine cut1_none c l fun hm => ?_
  obtain ⟨i, hi, hx⟩ := List.getElem_of_mem hm
  exact h i hi (by rw [List.getElem?_eq_getElem hi, hx])
set_option maxHeartbeats 1000000 in
theorem part_ref (s : ByteArray) (hs : WfS s) (c : UInt8) (n : Int) (hn : Hid ((c.toNat : Int) = n)) (w : World) : Calls Tryz.prog 85 #[.string s, .int .u8 n] w fun e w' => e = .returned (.tuple #[.string ⟨(cut1 c s.data.toList).1.toArray⟩, .string ⟨(cut1 c s.data.toList).2.1.toArray⟩, .bool (cut1 c s.data.toList).2.2]) ∧ Below w.heap.size w w' := by
  unfold WfS at hs
  have HEL := Lib.hid (show s.data.toList.length = s.size from bytesL_length s)
  go_enter Tryz.func85, Tryz.ntmps85
  go_wp2_with fail
  go_loop [7] (fun v7 => ∃ k : Nat, k ≤ s.size ∧ v7 = .int .i64 k ∧ Hid (∀ i, i < k → s.data.toList[i]? ≠ some c)) (fun v7 => s.size - (intOf v7).toNat)
  case atStart => exact ⟨0, by omega, rfl, Lib.hid (fun i hi => by omega)⟩
  case round =>
    obtain ⟨k, hk, rfl, hno⟩ := hrel
    by_cases hlt : k < s.size
    · have HG := Lib.hid (get_data s k hlt)
      by_cases hc : (s[k].toNat : Int) = n
      · have hb : ((s[k].toNat : Int) == n) = true := by rw [beq_iff_eq]; exact hc
        have hcc : s[k] = c := UInt8.toNat_inj.1 (by have := hn.out; omega)
        have HC := Lib.hid (cut1_at (by rw [HG.out, hcc]) hno.out)
        have HT := Lib.hid (And.intro (mk_take s k) (mk_drop s (k + 1)))
        have hi0 : (0 : Int) ≤ k := by omega
        have hi1 : (k : Int) < s.size := by omega
        have hw1 : IntKind.i64.wrap ((k : Int) + 1) = k + 1 := IntWalk.i64_in _ (by omega)
        have hw2 : (0 : Int) ≤ (k : Int) + 1 := by omega
        have hw3 : ((k : Int) + 1).toNat = k + 1 := by omega
        have hw4 : (k : Int) + 1 ≤ s.size := by omega
        clear hc hcc
        go_wp2_with fail
        go_quiet (fail)
        clear hw1 hw2 hw3 hw4
        go_wp2_with fail
        go_ret3
        refine ⟨?_, below_drewN (Below.refl _ _) _⟩
        rw [HC.out]
        show Ending.returned (.tuple #[.string (s.extract 0 k), .string (s.extract (k + 1) s.size), .bool true]) = _
        rw [HT.out.1, HT.out.2]
      · have hb : ((s[k].toNat : Int) == n) = false := by rw [beq_eq_false_iff_ne]; exact hc
        have HN := Lib.hid (show ∀ i, i < k + 1 → s.data.toList[i]? ≠ some c from fun i hi => by
          by_cases e : i = k
          · subst e
            rw [HG.out]
            intro h
            exact hc (by rw [Option.some.inj h]; exact hn.out)
          · exact hno.out i (by omega))
        clear hc
        go_wp2_with fail
        go_round
        case rel => exact ⟨k + 1, by omega, by go_num, HN⟩
        case measure => simp [intOf]; omega
    · have HC := Lib.hid (cut1_no (c := c) (l := s.data.toList) (fun i hi => hno.out i (by rw [HEL.out] at hi; omega)))
      go_wp2_with fail
      go_ret3
      refine ⟨?_, Below.refl _ _⟩
      rw [HC.out]
      show Ending.returned (.tuple #[.string s, .string (ByteArray.mk #[]), .bool false]) = _
      rw [← mk_of s]
end Go.Proofs.YtljbclkbmjjmdaaGreatDoor
