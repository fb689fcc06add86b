/- The walks of a job's line, and of a job that is read. -/
import Derived.Test.YtljbclkbmjjmdaaGreatDoorP6
import Derived.Test.YtljbclkbmjjmdaaGreatDoorL
namespace Go.Proofs.YtljbclkbmjjmdaaGreatDoor
open Go.RowKit Go.Shelf
def OnePost (r : Nat) (k : Int) (l : List UInt8) (j : Jb) (w : World) (e : Ending) (w' : World) : Prop :=
  ∃ b j', e = .returned (.bool b) ∧ RdAt r j' w' ∧ w.grownBy w' (some r) ∧ ((b = true ∧ LineIs k l j j') ∨ (b = false ∧ ∀ c, ¬ LineIs k l j c))
theorem one_no {r : Nat} {k : Int} {l : List UInt8} {j : Jb} {w w' : World} (hr : RdAt r j w) (hb : Below w.heap.size w w') (h : ∀ c, ¬ LineIs k l j c) : OnePost r k l j w (.returned (.bool false)) w' :=
  ⟨false, j, rfl, hr.mono hb, ⟨hb.os, hb.tape, hb.output, hb.size, fun i hi _ => hb.block i hi⟩, .inr ⟨rfl, h⟩⟩
/-- What a line's reader is asked for. -/
def Reads (k : Int) (m : Int) (g : Nat) (r : Nat) (j : Jb) : Prop :=
  Enters Tryz.prog g ∧ ∀ W v xs, (xs.length : Int) = m → Sl 1 rStr W v xs → Env W → (∀ x ∈ xs, x.size < 4294967281) → RdAt r j W → Calls Tryz.prog g #[.pointer (some ⟨r, 0, none⟩), v] W (RdPost r k (xs.map bytesL) j W)
set_option maxHeartbeats 1000000 in
set_option maxRecDepth 100000 in
theorem line_job (k m : Int) (g r : Nat) (j : Jb) (s word : ByteArray) (w : World) (hm1 : 1 ≤ m) (hm2 : m ≤ 9) (hg : Reads k m g r j) (hs : s.size < 4294967281) (h : Env w) (hr : RdAt r j w) (hword : Hid (bytesL word = wordJ k)) (hP : Hid (∀ xs c, LineP k xs j c → (xs.length : Int) = m)) :
    Calls Tryz.prog 73 #[.pointer (some ⟨r, 0, none⟩), .string s, .string word, .int .i64 m, .func (.func g) #[] #[]] w (OnePost r k s.data.toList j w) := by
  have HS := Lib.hid (split_calls s hs w h)
  obtain ⟨x, xs, hxs⟩ : ∃ x xs, wordsB s.data.toList = x :: xs := by
    cases hc : wordsB s.data.toList with
    | nil => have := wordsB_pos s.data.toList; rw [hc] at this; simp at this
    | cons x xs => exact ⟨x, xs, rfl⟩
  have hbytes := wordsB_bytes s.data.toList
  rw [hxs, List.map_cons] at hbytes
  have hsz : ∀ y ∈ xs, y.size < 4294967281 := fun y hy => by
    have := wordsB_size s.data.toList y (by rw [hxs]; simp [hy])
    have e : s.data.toList.length = s.size := bytesL_length s
    omega
  have hlen : xs.length ≤ 4294967281 := by
    have h1 : (wordsB s.data.toList).length ≤ s.data.toList.length + 1 := by rw [wordsB_len, words_len]; have := List.count_le_length (a := (32 : UInt8)) (l := s.data.toList); omega
    rw [hxs, List.length_cons] at h1
    have e : s.data.toList.length = s.size := bytesL_length s
    omega
  unfold SplitPost at HS
  rw [hxs] at HS
  simp only [List.length_cons] at HS
  have HB := Lib.hid hbytes
  have eg := hg.1
  unfold Enters at eg
  have HG := Lib.hid hg.2
  have HR := Lib.hid hr
  clear hxs hbytes hg hr
  have hno : (bytesL x ≠ wordJ k ∨ (xs.length : Int) ≠ m) → ∀ c, ¬ LineIs k s.data.toList j c := by
    rintro hh c ⟨ys, e, hl⟩
    rw [← HB.out] at e
    injection e with e1 e2
    rcases hh with hh | hh
    · exact hh e1
    · have := hP.out _ _ hl
      rw [← e2, List.length_map] at this
      exact hh this
  have HNO := Lib.hid hno
  clear hno
  go_enter Tryz.func73, Tryz.ntmps73
  go_wp2_with (go_at_call 14; (with_reducible refine HS.out.mono ?_))
  rintro e w1 ⟨rfl, hb1, hz1, A, c, hv, hsl, hc, hmx⟩
  injection hv with hv1 hv2 hv3
  subst hv1
  subst hv3
  obtain ⟨b, o, hbo, hbz, hst, u, ⟨hu, hxw⟩, hcell⟩ := sl_tail hsl
  injection hbo with hbo
  injection hbo with q1 q2
  subst q1 q2
  injection hu with hu
  subst hu
  clear hsl hv2
  by_cases hx : x = word
  · have hB1 : (x.toList == word.toList) = true := by rw [hx]; simp
    by_cases hl : (xs.length : Int) = m
    · have hB2 : ((xs.length : Int) + 1 == m + 1) = true := by rw [beq_iff_eq]; omega
      have hne : ¬ xs = [] := fun e => by rw [e] at hl; simp at hl; omega
      have hsl2 : Sl 1 rStr w1 (.slice (some ⟨w.heap.size, 1, none⟩) xs.length xs.length) xs := ⟨_, _, rfl, hst, by omega, by omega⟩
      have HC := Lib.hid (HG.out w1 _ xs hl hsl2 (h.mono hb1) hsz (HR.out.mono hb1))
      have HX := Lib.hid hx
      clear hx hl hst HG
      go_wp2_with ((with_reducible refine HC.out.mono ?_))
      rintro e w2 ⟨bo, j', rfl, hr2, hg2, hp⟩
      have HP := Lib.hid hp
      clear hp
      cases bo
      all_goals
        go_wp2_with fail
        go_ret
      · refine ⟨false, j', rfl, hr2, grown_below hb1 hg2, .inr ⟨rfl, fun c hc => ?_⟩⟩
        obtain ⟨ys, e, hl⟩ := hc
        rw [← HB.out] at e
        injection e with _ e2
        subst e2
        rcases HP.out with ⟨h', _⟩ | ⟨_, h'⟩
        · cases h'
        · exact h' _ hl
      · refine ⟨true, j', rfl, hr2, grown_below hb1 hg2, .inl ⟨rfl, xs.map bytesL, ?_, ?_⟩⟩
        · rw [← HB.out, HX.out, hword.out]
        · rcases HP.out with ⟨_, h'⟩ | ⟨h', _⟩
          · exact h'
          · cases h'
    · have hB2 : ((xs.length : Int) + 1 == m + 1) = false := by rw [beq_eq_false_iff_ne]; omega
      have HN := Lib.hid (HNO.out (.inr hl))
      clear hx hl
      go_wp2_with fail
      go_ret
      exact one_no HR.out hb1 HN.out
  · have hB1 : (x.toList == word.toList) = false := by
      rw [ByteArray.toList_eq, ByteArray.toList_eq, beq_eq_false_iff_ne]; exact fun e => hx (ba_ext e)
    have HN := Lib.hid (HNO.out (.inl fun e => hx (ba_ext (e.trans hword.out.symm))))
    clear hx
    go_wp2_with fail
    go_ret
    exact one_no HR.out hb1 HN.out
end Go.Proofs.YtljbclkbmjjmdaaGreatDoor
