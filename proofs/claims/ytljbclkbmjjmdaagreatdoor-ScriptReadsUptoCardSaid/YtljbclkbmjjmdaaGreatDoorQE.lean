/- A text that spells an event: the plain part; no program in sight. -/
import Derived.Test.YtljbclkbmjjmdaaGreatDoorQ
import Derived.Test.YtljbclkbmjjmdaaGreatDoorT4
namespace Go.Proofs.YtljbclkbmjjmdaaGreatDoor
open Go.RowKit Go.Lib
/-- A text that spells an event. -/
def IsEv (s : ByteArray) (e : Ev) : Prop := s.data.toList = evL e ∧ e.wf ∧ lettersB e.key = true ∧ eventB e = true
theorem ba_ext {a b : ByteArray} (h : a.data.toList = b.data.toList) : a = b := by rw [mk_of a, mk_of b, h]
theorem letters_mem {s : ByteArray} (h : lettersB s = true) {c : UInt8} (hc : c ∈ s.data.toList) : 97 ≤ c.toNat ∧ c.toNat ≤ 122 := by
  unfold lettersB at h
  rw [List.all_eq_true] at h
  simpa using h c hc
theorem itoa_no (v : Int) (c : UInt8) (h : c.toNat ≠ 45) (h2 : ¬ (48 ≤ c.toNat ∧ c.toNat ≤ 57)) : c ∉ itoa v := fun hc => by
  rcases itoa_chars v c hc with h' | h'
  · exact h h'
  · exact h2 h'
theorem bytesL_eq (s : ByteArray) : bytesL s = s.data.toList := rfl
theorem evL_shape (e : Ev) : evL e = bytesL e.key ++ 64 :: (itoa e.at_ ++ 58 :: itoa e.val) := by simp [evL]
theorem isEv_cut {s : ByteArray} {y : Ev} (h : IsEv s y) :
    cut1 64 s.data.toList = (bytesL y.key, itoa y.at_ ++ 58 :: itoa y.val, true) ∧ cut1 58 (itoa y.at_ ++ 58 :: itoa y.val) = (itoa y.at_, itoa y.val, true) := by
  refine ⟨?_, cut1_app 58 _ _ (itoa_no _ _ (by decide) (by decide))⟩
  rw [h.1, evL_shape]
  exact cut1_app 64 _ _ fun hc => by
    have := letters_mem h.2.2.1 hc
    simp at this
theorem ev_decide (s sk sr sa sv : ByteArray) (t v : Int) (A B C D L E : Bool)
    (hsk : sk = ByteArray.mk (cut1 64 s.data.toList).1.toArray) (hsr : sr = ByteArray.mk (cut1 64 s.data.toList).2.1.toArray) (hA : A = (cut1 64 s.data.toList).2.2)
    (hsa : sa = ByteArray.mk (cut1 58 sr.data.toList).1.toArray) (hsv : sv = ByteArray.mk (cut1 58 sr.data.toList).2.1.toArray) (hB : B = (cut1 58 sr.data.toList).2.2)
    (hC : (C = true ∧ IsNum sa t) ∨ (C = false ∧ ∀ v, ¬ IsNum sa v)) (hD : (D = true ∧ IsNum sv v) ∨ (D = false ∧ ∀ u, ¬ IsNum sv u))
    (hL : L = lettersB sk) (hE : E = eventB ⟨sk, t, v⟩) (hk : WfS sk) :
    ((A && B && C && D && L && E) = true ∧ IsEv s ⟨sk, t, v⟩) ∨ ((A && B && C && D && L && E) = false ∧ ∀ y, ¬ IsEv s y) := by
  cases hX : (A && B && C && D && L && E)
  · right
    refine ⟨rfl, fun y hy => ?_⟩
    obtain ⟨c1, c2⟩ := isEv_cut hy
    rw [c1] at hsk hsr hA
    have e1 : sk = y.key := hsk.trans (mk_of y.key).symm
    have e2 : sr.data.toList = itoa y.at_ ++ 58 :: itoa y.val := by rw [hsr]
    rw [e2, c2] at hsa hsv hB
    have n1 : IsNum sa y.at_ := ⟨hy.2.1.2.1, by rw [hsa]⟩
    have n2 : IsNum sv y.val := ⟨hy.2.1.2.2, by rw [hsv]⟩
    have hc : C = true ∧ t = y.at_ := by
      rcases hC with ⟨h, k⟩ | ⟨_, k⟩
      · exact ⟨h, k.eq n1⟩
      · exact absurd n1 (k _)
    have hd : D = true ∧ v = y.val := by
      rcases hD with ⟨h, k⟩ | ⟨_, k⟩
      · exact ⟨h, k.eq n2⟩
      · exact absurd n2 (k _)
    have hE' : E = true := by rw [hE, e1, hc.2, hd.2]; exact hy.2.2.2
    have hL' : L = true := by rw [hL, e1]; exact hy.2.2.1
    rw [hA, hB, hc.1, hd.1, hL', hE'] at hX
    simp at hX
  · left
    simp only [Bool.and_eq_true] at hX
    obtain ⟨⟨⟨⟨⟨a1, b1⟩, c1⟩, d1⟩, l1⟩, e1⟩ := hX
    refine ⟨rfl, ?_⟩
    have n1 : IsNum sa t := by
      rcases hC with ⟨_, k⟩ | ⟨h, _⟩
      · exact k
      · rw [c1] at h; cases h
    have n2 : IsNum sv v := by
      rcases hD with ⟨_, k⟩ | ⟨h, _⟩
      · exact k
      · rw [d1] at h; cases h
    refine ⟨?_, ⟨hk, n1.1, n2.1⟩, by rw [← hL]; exact l1, by rw [← hE]; exact e1⟩
    rcases cut1_inv 64 s.data.toList with ⟨p, q, e, _, c⟩ | ⟨_, c⟩
    · rcases cut1_inv 58 sr.data.toList with ⟨p', q', e', _, c'⟩ | ⟨_, c'⟩
      · rw [c] at hsk hsr
        rw [c'] at hsa hsv
        have s1 : sk.data.toList = p := by rw [hsk]
        have s2 : sr.data.toList = q := by rw [hsr]
        have s3 : sa.data.toList = p' := by rw [hsa]
        have s4 : sv.data.toList = q' := by rw [hsv]
        rw [e, evL_shape, bytesL_eq, ← n1.2, ← n2.2, s1, s3, s4, ← e', s2]
      · rw [c', b1] at hB; cases hB
    · rw [c, a1] at hA; cases hA
end Go.Proofs.YtljbclkbmjjmdaaGreatDoor
