/- The walks of the reference's lines and words. -/
import Derived.Test.YtljbclkbmjjmdaaGreatDoorU1
import Derived.Test.YtljbclkbmjjmdaaGreatDoorP3
import Derived.Test.YtljbclkbmjjmdaaGreatDoorP6
namespace Go.Proofs.YtljbclkbmjjmdaaGreatDoor
open Go.RowKit Go.Shelf
theorem extr_mid (s : ByteArray) (f k : Nat) : (s.extract f k).data.toList = (s.data.toList.drop f).take (k - f) := by
  rw [Lib.extract_data]
theorem piece_step {c : UInt8} {l : List UInt8} {done : List (List UInt8)} {f k : Nat} (h : wordsL c l = done ++ wordsL c (l.drop f)) (hno : ∀ i, f ≤ i → i < k → l[i]? ≠ some c) (hk : l[k]? = some c) (hfk : f ≤ k) :
    wordsL c l = (done ++ [(l.drop f).take (k - f)]) ++ wordsL c (l.drop (k + 1)) := by
  have hlt : k < l.length := (List.getElem?_eq_some_iff.1 hk).1
  have e : l.drop f = (l.drop f).take (k - f) ++ c :: l.drop (k + 1) := by
    conv => lhs; rw [← List.take_append_drop (k - f) (l.drop f)]
    rw [List.drop_drop, show f + (k - f) = k by omega, List.drop_eq_getElem_cons hlt]
    rw [List.getElem?_eq_getElem hlt] at hk
    rw [Option.some.inj hk]
  have hn : c ∉ (l.drop f).take (k - f) := fun hm => by
    obtain ⟨i, hi, hx⟩ := List.getElem_of_mem hm
    rw [List.length_take, List.length_drop] at hi
    rw [List.getElem_take, List.getElem_drop] at hx
    exact hno (f + i) (by omega) (by omega) (by rw [List.getElem?_eq_getElem (by omega), hx])
  rw [h]
  conv => lhs; rw [e]
  rw [wordsL_app _ hn]
  simp
theorem piece_end {c : UInt8} {l : List UInt8} {done : List (List UInt8)} {f : Nat} (h : wordsL c l = done ++ wordsL c (l.drop f)) (hno : ∀ i, f ≤ i → i < l.length → l[i]? ≠ some c) : wordsL c l = done ++ [l.drop f] := by
  have hn : c ∉ l.drop f := fun hm => by
    obtain ⟨i, hi, hx⟩ := List.getElem_of_mem hm
    rw [List.length_drop] at hi
    rw [List.getElem_drop] at hx
    exact hno (f + i) (by omega) (by omega) (by rw [List.getElem?_eq_getElem (by omega), hx])
  rw [h, wordsL_none hn]
theorem news_allocR (W : World) (cs : List Value) (T : TypeId) {n : Nat} (hn : W.heap.size = n) : ∀ j u, cs[j]? = some u → (W.alloc (.cells cs.toArray T)).cell? ((⟨n, 0, none⟩ : Addr).add j) = some u := by
  intro j u hj
  have e : ((⟨n, 0, none⟩ : Addr).add j) = ⟨n, j, none⟩ := by cases j <;> simp [Addr.add]
  rw [e, World.cell?_alloc_at _ _ _ _ hn.symm]
  simpa using hj
theorem row_valR {W : World} {B k n : Nat} {T : TypeId} {v : Value} {xs : List Value} (h : W.ownsRow B T k v n xs) : ∃ A c, v = .slice A n c := by
  rcases h.2 with ⟨rfl, h0⟩ | ⟨g, cap, cur, rfl, _⟩
  · exact ⟨none, 0, by rw [h0]⟩
  · exact ⟨_, _, rfl⟩
theorem one_cellR {v : Value} (h : v.oneCell' = true) : ∀ u ∈ [v], u.oneCell' = true := by
  intro u hu
  rw [List.mem_singleton.1 hu]
  exact h
def strV (x : List UInt8) : Value := .string ⟨x.toArray⟩
theorem strV_extract (s : ByteArray) (f k : Nat) : Value.string (s.extract f k) = strV ((s.data.toList.drop f).take (k - f)) := by rw [← extr_mid]; unfold strV; rw [← mk_of]
theorem words_count (c : UInt8) (l : List UInt8) : (wordsL c l).length ≤ l.length + 1 := by rw [words_len]; have := List.count_le_length (a := c) (l := l); omega
set_option maxHeartbeats 2000000 in
set_option maxRecDepth 100000 in
theorem words24 (s : ByteArray) (hs : s.size < 4294967281) (w : World) : Calls Tryz.prog 22 #[.string s] w fun e w' => ∃ v ws, e = .returned (v) ∧ Below w.heap.size w w' ∧ w'.ownsRow w.heap.size 9 1 v (ws.length) (ws.map strV) ∧ wordsL 32 s.data.toList = ws := by
  have HEL := Lib.hid (show s.data.toList.length = s.size from bytesL_length s)
  obtain ⟨i0, hi, hz0, hz1, hz2⟩ := info_parts string_info
  go_enter Tryz.func22, Tryz.ntmps22
  go_wp2_with fail
  go_loopw [3, 4, 5] (fun vo vf vi wr => ∃ (f k : Nat) (ws : List (List UInt8)), f ≤ k ∧ k ≤ s.size ∧ vf = .int .i64 f ∧ vi = .int .i64 k ∧ wr.ownsRow w.heap.size 9 1 vo ws.length (ws.map strV) ∧ Below w.heap.size w wr ∧ Hid (wordsL 32 s.data.toList = ws ++ wordsL 32 (s.data.toList.drop f)) ∧ Hid (∀ i, f ≤ i → i < k → s.data.toList[i]? ≠ some 32)) (fun _ _ vi _ => s.size - (intOf vi).toNat)
  case atStart => exact ⟨0, 0, [], by omega, by omega, rfl, rfl, ⟨rfl, .inr ⟨_, 0, #[], rfl, Nat.le_refl _, heap_alloc_new w _, Nat.le_refl _, by unfold maxLen; omega, rfl, rfl⟩⟩, (Below.refl _ _).alloc (Nat.le_refl _) _, Lib.hid (by simp), Lib.hid (fun i h1 h2 => by omega)⟩
  case round =>
    obtain ⟨f, k, ws, hfk, hk, rfl, rfl, hrow, hb, hw, hno⟩ := hrel
    have hwl : ws.length ≤ s.size := by
      have h1 := words_count 32 s.data.toList
      rw [hw.out, List.length_append, HEL.out] at h1
      have := List.length_pos_iff.2 (wordsL_ne 32 (s.data.toList.drop f))
      omega
    by_cases hlt : k < s.size
    · have HG := Lib.hid (get_data s k hlt)
      by_cases hc : (s[k].toNat : Int) = 32
      · have hbq : ((s[k].toNat : Int) == 32) = true := by rw [beq_iff_eq]; exact hc
        have hcc : s[k] = 32 := UInt8.toNat_inj.1 (by show s[k].toNat = 32; omega)
        have HST := Lib.hid (piece_step hw.out hno.out (by rw [HG.out, hcc]) hfk)
        have HSV := Lib.hid (strV_extract s f k)
        have hsz := hb.size
        clear hc hcc
        go_wp2_with (at_builtin; refine wpList_append_own _ rfl _ _ 37 rfl w.heap.size 9 i0 (.string (ByteArray.mk #[])) 1 16 Tryz.underlying37 hi hz0 hz1 hz2 rfl (by decide) _ _ _ rfl (row_belowK hrow (ext_alloc (Below.refl _ _) _)) ⟨wr.heap.size, 0, none⟩ 1 1 [.string (s.extract f k)] rfl rfl (news_allocR wr [.string (s.extract f k)] 9 rfl) (one_cellR rfl) (by unfold maxLen; omega) (by omega) (by simp; omega) ?_)
        intro v' w2 hown' hgrow _
        obtain ⟨A', c', rfl⟩ := row_valR hown'
        have hb2 : Below wr.heap.size wr (wr.alloc (.cells #[.string (s.extract f k)] 9)) := ext_alloc (Below.refl _ _) _
        have hbz := (below_tr hb hb2).trans (below_of_grownK (row_belowK hrow hb2) (by simp; omega) hgrow)
        rw [HSV.out] at hown'
        have HO := Lib.hid hown'
        clear hown' hgrow hb2 hrow
        go_wp2_with fail
        go_roundw
        case rel => exact ⟨k + 1, k + 1, ws ++ [(s.data.toList.drop f).take (k - f)], by omega, by omega, by go_num, by go_num, by simpa using HO.out, hbz, HST, Lib.hid (fun i h1 h2 => by omega)⟩
        case measure => simp [intOf]; omega
      · have hbq : ((s[k].toNat : Int) == 32) = false := by rw [beq_eq_false_iff_ne]; exact hc
        have HN := Lib.hid (show ∀ i, f ≤ i → i < k + 1 → s.data.toList[i]? ≠ some 32 from fun i h1 h2 => by
          by_cases e : i = k
          · subst e
            rw [HG.out]
            intro h
            exact hc (by rw [Option.some.inj h]; rfl)
          · exact hno.out i h1 (by omega))
        clear hc
        go_wp2_with fail
        go_roundw
        case rel => exact ⟨f, k + 1, ws, by omega, by omega, rfl, by go_num, hrow, hb, hw, HN⟩
        case measure => simp [intOf]; omega
    · have HE := Lib.hid (piece_end hw.out (fun i h1 h2 => hno.out i h1 (by rw [HEL.out] at h2; omega)))
      have HSV := Lib.hid (strV_extract s f s.size)
      have hsz := hb.size
      have hfs : f ≤ s.size := by omega
      go_wp2_with (at_builtin; refine wpList_append_own _ rfl _ _ 37 rfl w.heap.size 9 i0 (.string (ByteArray.mk #[])) 1 16 Tryz.underlying37 hi hz0 hz1 hz2 rfl (by decide) _ _ _ rfl (row_belowK hrow (ext_alloc (Below.refl _ _) _)) ⟨wr.heap.size, 0, none⟩ 1 1 [.string (s.extract f s.size)] rfl rfl (news_allocR wr [.string (s.extract f s.size)] 9 rfl) (one_cellR rfl) (by unfold maxLen; omega) (by omega) (by simp; omega) ?_)
      intro v' w2 hown' hgrow _
      obtain ⟨A', c', rfl⟩ := row_valR hown'
      have hb2 : Below wr.heap.size wr (wr.alloc (.cells #[.string (s.extract f s.size)] 9)) := ext_alloc (Below.refl _ _) _
      have hbz := (below_tr hb hb2).trans (below_of_grownK (row_belowK hrow hb2) (by simp; omega) hgrow)
      rw [HSV.out] at hown'
      have HO := Lib.hid hown'
      clear hown' hgrow hb2 hrow
      go_wp2_with fail
      go_ret
      refine ⟨_, ws ++ [s.data.toList.drop f], rfl, hbz, ?_, HE.out⟩
      have h1 := HO.out
      rw [List.take_of_length_le (by rw [List.length_drop, HEL.out]; omega)] at h1
      simpa using h1
set_option maxHeartbeats 2000000 in
set_option maxRecDepth 100000 in
theorem lines24 (s : ByteArray) (hs : s.size < 4294967281) (w : World) : Calls Tryz.prog 20 #[.string s] w fun e w' => ∃ v ws rest, e = .returned (.tuple #[v, .string ⟨rest.toArray⟩]) ∧ Below w.heap.size w w' ∧ w'.ownsRow w.heap.size 9 1 v (ws.length) (ws.map strV) ∧ wordsL 10 s.data.toList = ws ++ [rest] := by
  have HEL := Lib.hid (show s.data.toList.length = s.size from bytesL_length s)
  obtain ⟨i0, hi, hz0, hz1, hz2⟩ := info_parts string_info
  go_enter Tryz.func20, Tryz.ntmps20
  go_wp2_with fail
  go_loopw [4, 5, 6] (fun vo vf vi wr => ∃ (f k : Nat) (ws : List (List UInt8)), f ≤ k ∧ k ≤ s.size ∧ vf = .int .i64 f ∧ vi = .int .i64 k ∧ wr.ownsRow w.heap.size 9 1 vo ws.length (ws.map strV) ∧ Below w.heap.size w wr ∧ Hid (wordsL 10 s.data.toList = ws ++ wordsL 10 (s.data.toList.drop f)) ∧ Hid (∀ i, f ≤ i → i < k → s.data.toList[i]? ≠ some 10)) (fun _ _ vi _ => s.size - (intOf vi).toNat)
  case atStart => exact ⟨0, 0, [], by omega, by omega, rfl, rfl, ⟨rfl, .inr ⟨_, 0, #[], rfl, Nat.le_refl _, heap_alloc_new w _, Nat.le_refl _, by unfold maxLen; omega, rfl, rfl⟩⟩, (Below.refl _ _).alloc (Nat.le_refl _) _, Lib.hid (by simp), Lib.hid (fun i h1 h2 => by omega)⟩
  case round =>
    obtain ⟨f, k, ws, hfk, hk, rfl, rfl, hrow, hb, hw, hno⟩ := hrel
    have hwl : ws.length ≤ s.size := by
      have h1 := words_count 10 s.data.toList
      rw [hw.out, List.length_append, HEL.out] at h1
      have := List.length_pos_iff.2 (wordsL_ne 10 (s.data.toList.drop f))
      omega
    by_cases hlt : k < s.size
    · have HG := Lib.hid (get_data s k hlt)
      by_cases hc : (s[k].toNat : Int) = 10
      · have hbq : ((s[k].toNat : Int) == 10) = true := by rw [beq_iff_eq]; exact hc
        have hcc : s[k] = 10 := UInt8.toNat_inj.1 (by show s[k].toNat = 10; omega)
        have HST := Lib.hid (piece_step hw.out hno.out (by rw [HG.out, hcc]) hfk)
        have HSV := Lib.hid (strV_extract s f k)
        have hsz := hb.size
        clear hc hcc
        go_wp2_with (at_builtin; refine wpList_append_own _ rfl _ _ 37 rfl w.heap.size 9 i0 (.string (ByteArray.mk #[])) 1 16 Tryz.underlying37 hi hz0 hz1 hz2 rfl (by decide) _ _ _ rfl (row_belowK hrow (ext_alloc (Below.refl _ _) _)) ⟨wr.heap.size, 0, none⟩ 1 1 [.string (s.extract f k)] rfl rfl (news_allocR wr [.string (s.extract f k)] 9 rfl) (one_cellR rfl) (by unfold maxLen; omega) (by omega) (by simp; omega) ?_)
        intro v' w2 hown' hgrow _
        obtain ⟨A', c', rfl⟩ := row_valR hown'
        have hb2 : Below wr.heap.size wr (wr.alloc (.cells #[.string (s.extract f k)] 9)) := ext_alloc (Below.refl _ _) _
        have hbz := (below_tr hb hb2).trans (below_of_grownK (row_belowK hrow hb2) (by simp; omega) hgrow)
        rw [HSV.out] at hown'
        have HO := Lib.hid hown'
        clear hown' hgrow hb2 hrow
        go_wp2_with fail
        go_roundw
        case rel => exact ⟨k + 1, k + 1, ws ++ [(s.data.toList.drop f).take (k - f)], by omega, by omega, by go_num, by go_num, by simpa using HO.out, hbz, HST, Lib.hid (fun i h1 h2 => by omega)⟩
        case measure => simp [intOf]; omega
      · have hbq : ((s[k].toNat : Int) == 10) = false := by rw [beq_eq_false_iff_ne]; exact hc
        have HN := Lib.hid (show ∀ i, f ≤ i → i < k + 1 → s.data.toList[i]? ≠ some 10 from fun i h1 h2 => by
          by_cases e : i = k
          · subst e
            rw [HG.out]
            intro h
            exact hc (by rw [Option.some.inj h]; rfl)
          · exact hno.out i h1 (by omega))
        clear hc
        go_wp2_with fail
        go_roundw
        case rel => exact ⟨f, k + 1, ws, by omega, by omega, rfl, by go_num, hrow, hb, hw, HN⟩
        case measure => simp [intOf]; omega
    · have HE := Lib.hid (piece_end hw.out (fun i h1 h2 => hno.out i h1 (by rw [HEL.out] at h2; omega)))
      have hfs : f ≤ s.size := by omega
      have hi0 : (0 : Int) ≤ f := by omega
      have hi1 : (f : Int) ≤ s.size := by omega
      have HT := Lib.hid (mk_drop s f)
      obtain ⟨A', c', rfl⟩ := row_valR hrow
      have HRW := Lib.hid hrow
      clear hrow
      go_wp2_with fail
      go_quiet (fail)
      go_wp2_with fail
      go_ret2
      refine ⟨_, ws, s.data.toList.drop f, ?_, below_drewN hb _, row_belowK HRW.out (below_drewN (Below.refl _ _) _), HE.out⟩
      rw [← HT.out]
      rfl
end Go.Proofs.YtljbclkbmjjmdaaGreatDoor
/- The walks of the reference's rows of numbers, and of the fold's line. -/
namespace Go.Proofs.YtljbclkbmjjmdaaGreatDoor
open Go.RowKit Go.Shelf
def flatN (ns : List Int) : List UInt8 := ns.flatMap fun n => 32 :: Lib.itoa n
def Good (ns : List Int) : Prop := ∀ n ∈ ns, Wf .i64 n ∧ 0 ≤ n
def Spell (word : List UInt8) (ns : List Int) (r s : List UInt8) : Prop := s = word ++ flatN ns ++ 10 :: r ∧ Good ns
theorem flatN_cons (n : Int) (t : List Int) : flatN (n :: t) = 32 :: (Lib.itoa n ++ flatN t) := by simp [flatN]
theorem flatN_app (a b : List Int) : flatN (a ++ b) = flatN a ++ flatN b := by simp [flatN]
theorem tail_head (t : List Int) (r : List UInt8) : ∀ c x, flatN t ++ 10 :: r = c :: x → isDig c = false := by
  intro c x h
  cases t with
  | nil => simp [flatN] at h; rw [← h.1]; decide
  | cons n t => rw [flatN_cons] at h; simp at h; rw [← h.1]; decide
theorem good_num {n : Int} (h : Wf .i64 n ∧ 0 ≤ n) : NumL (Lib.itoa n) n := ⟨h.1, rfl, h.2⟩
/-- What is left to be spelled. -/
def Left_ (word s : List UInt8) (m : Nat) (ns : List Int) (T : List UInt8) : Prop := ∀ ns' r, ns'.length = m → Spell word ns' r s → ∃ u, ns' = ns ++ u ∧ T = flatN u ++ 10 :: r
theorem left_open {word s : List UInt8} {m : Nat} {ns : List Int} {T : List UInt8} (h : Left_ word s m ns T) (hl : ns.length < m) {ns' : List Int} {r : List UInt8} (h1 : ns'.length = m) (h2 : Spell word ns' r s) :
    ∃ n t, ns' = ns ++ n :: t ∧ T = 32 :: (Lib.itoa n ++ (flatN t ++ 10 :: r)) ∧ (Wf .i64 n ∧ 0 ≤ n) := by
  obtain ⟨u, e1, e2⟩ := h ns' r h1 h2
  cases u with
  | nil => rw [e1] at h1; simp at h1; omega
  | cons n t =>
    refine ⟨n, t, e1, by rw [e2, flatN_cons]; simp, h2.2 n (by rw [e1]; simp)⟩
theorem left_step {word s : List UInt8} {m : Nat} {ns : List Int} {T R : List UInt8} (h : Left_ word s m ns T) (hl : ns.length < m) (hT : T = 32 :: R) {n : Int} (hn : NumL (digPre R) n) : Left_ word s m (ns ++ [n]) (R.drop (digPre R).length) := by
  intro ns' r h1 h2
  obtain ⟨n', t, e1, e2, hg⟩ := left_open h hl h1 h2
  rw [hT] at e2
  injection e2 with _ e2
  have hp : digPre R = Lib.itoa n' := by rw [e2]; exact digPre_app (ok_of_num (good_num hg)).1 (tail_head t r)
  have hnn : n = n' := by rw [hp] at hn; exact hn.eq (good_num hg)
  refine ⟨t, by rw [e1, hnn]; simp, ?_⟩
  rw [hp, e2, List.drop_left' rfl]
theorem left_no1 {word s : List UInt8} {m : Nat} {ns : List Int} {T : List UInt8} (h : Left_ word s m ns T) (hl : ns.length < m) (hT : ∀ r, T ≠ [32] ++ r) : ∀ ns' r, ns'.length = m → ¬ Spell word ns' r s := by
  intro ns' r h1 h2
  obtain ⟨n', t, e1, e2, hg⟩ := left_open h hl h1 h2
  exact hT _ e2
theorem left_no2 {word s : List UInt8} {m : Nat} {ns : List Int} {T R : List UInt8} (h : Left_ word s m ns T) (hl : ns.length < m) (hT : T = 32 :: R) (hn : ∀ n, ¬ NumL (digPre R) n) : ∀ ns' r, ns'.length = m → ¬ Spell word ns' r s := by
  intro ns' r h1 h2
  obtain ⟨n', t, e1, e2, hg⟩ := left_open h hl h1 h2
  rw [hT] at e2
  injection e2 with _ e2
  refine hn n' ?_
  rw [e2, digPre_app (ok_of_num (good_num hg)).1 (tail_head t r)]
  exact good_num hg
def intV (n : Int) : Value := .int .i64 n
def NumsPost (s word : List UInt8) (m : Nat) (w : World) (e : Ending) (w' : World) : Prop :=
  ∃ v r b, e = .returned (.tuple #[v, .string r, .bool b]) ∧ Below w.heap.size w w' ∧ r.size < 4294967281 ∧ ((b = true ∧ ∃ ns, ns.length = m ∧ Spell word ns r.data.toList s ∧ w'.ownsRow w.heap.size 2 1 v m (ns.map intV)) ∨ (b = false ∧ ∀ ns r, ns.length = m → ¬ Spell word ns r s))
/-- What holds between two numbers. -/
def NumsInv (s word : List UInt8) (m : Nat) (i : Nat) (cells : List Value) (b : Bool) (t : List UInt8) : Prop :=
  (b = true → ∃ ns : List Int, ns.length = i ∧ cells = ns.map intV ∧ s = word ++ flatN ns ++ t ∧ Good ns ∧ Left_ word s m ns t) ∧ (b = false → ∀ ns r, ns.length = m → ¬ Spell word ns r s)
theorem i64_info : (Tryz.prog.info? 2).map (fun i => (i.zero, i.size, i.bytes)) = some (some (.int .i64 0), 1, 8) := by kernel_rfl
theorem inv_start {s word t : List UInt8} {m : Nat} (h : s = word ++ t) : NumsInv s word m 0 [] true t := by
  refine ⟨fun _ => ⟨[], rfl, rfl, by rw [h]; simp [flatN], fun n hn => by simp at hn, ?_⟩, fun h => (by cases h)⟩
  intro ns' r h1 h2
  refine ⟨ns', rfl, ?_⟩
  have := h2.1
  rw [h, List.append_assoc] at this
  exact List.append_cancel_left this
theorem inv_none {s word t : List UInt8} {m : Nat} (h : ∀ r, s ≠ word ++ r) : NumsInv s word m 0 [] false t :=
  ⟨fun h => (by cases h), fun _ ns r _ h2 => h (flatN ns ++ 10 :: r) (by rw [h2.1]; simp)⟩
theorem inv_step {s word t R : List UInt8} {m i : Nat} {cells : List Value} (h : NumsInv s word m i cells true t) (hi : i < m) (hT : t = 32 :: R) {n : Int} (hn : NumL (digPre R) n) : NumsInv s word m (i + 1) (cells ++ [intV n]) true (R.drop (digPre R).length) := by
  obtain ⟨ns, h1, h2, h3, h4, h5⟩ := h.1 rfl
  refine ⟨fun _ => ⟨ns ++ [n], by simp [h1], by simp [h2], ?_, ?_, left_step h5 (by omega) hT hn⟩, fun h => (by cases h)⟩
  · rw [h3, hT, flatN_app, flatN_cons]
    have := digPre_split R
    conv => lhs; rw [this, hn.2.1]
    rw [← hn.2.1]
    simp [flatN]
  · intro x hx
    rcases List.mem_append.1 hx with hx | hx
    · exact h4 x hx
    · rw [List.mem_singleton.1 hx]; exact ⟨hn.1, hn.2.2⟩
theorem inv_no1 {s word t t' : List UInt8} {m i : Nat} {cells cells' : List Value} (h : NumsInv s word m i cells true t) (hi : i < m) (hT : ∀ r, t ≠ [32] ++ r) : NumsInv s word m (i + 1) cells' false t' := by
  obtain ⟨ns, h1, h2, h3, h4, h5⟩ := h.1 rfl
  exact ⟨fun h => (by cases h), fun _ => left_no1 h5 (by omega) hT⟩
theorem inv_no2 {s word t t' R : List UInt8} {m i : Nat} {cells cells' : List Value} (h : NumsInv s word m i cells true t) (hi : i < m) (hT : t = 32 :: R) (hn : ∀ n, ¬ NumL (digPre R) n) : NumsInv s word m (i + 1) cells' false t' := by
  obtain ⟨ns, h1, h2, h3, h4, h5⟩ := h.1 rfl
  exact ⟨fun h => (by cases h), fun _ => left_no2 h5 (by omega) hT hn⟩
theorem inv_end {s word t r : List UInt8} {m : Nat} {cells : List Value} (h : NumsInv s word m m cells true t) (hT : t = [10] ++ r) : ∃ ns, ns.length = m ∧ Spell word ns r s ∧ cells = ns.map intV := by
  obtain ⟨ns, h1, h2, h3, h4, h5⟩ := h.1 rfl
  exact ⟨ns, h1, ⟨by rw [h3, hT]; simp, h4⟩, h2⟩
theorem inv_end_no {s word t : List UInt8} {m : Nat} {cells : List Value} (h : NumsInv s word m m cells true t) (hT : ∀ r, t ≠ [10] ++ r) : ∀ ns r, ns.length = m → ¬ Spell word ns r s := by
  obtain ⟨ns, h1, h2, h3, h4, h5⟩ := h.1 rfl
  intro ns' r k1 k2
  obtain ⟨u, e1, e2⟩ := h5 ns' r k1 k2
  have : u = [] := by rw [e1, List.length_append, h1] at k1; exact List.length_eq_zero_iff.1 (by omega)
  rw [this] at e2
  exact hT r (by rw [e2]; simp [flatN])
set_option maxHeartbeats 2000000 in
set_option maxRecDepth 100000 in
theorem numbers_ref (s word : ByteArray) (hs : s.size < 4294967281) (hword : word.size ≤ 100) (m : Nat) (M : Int) (hM : Hid ((m : Int) = M)) (hm0 : 0 ≤ M) (hm : M ≤ 5) (w : World) :
    Calls Tryz.prog 81 #[.string s, .string word, .int .i64 M] w (NumsPost s.data.toList word.data.toList m w) := by
  have HA := fun W => Lib.hid (after_ref s word (by unfold WfS; omega) (by unfold WfS; omega) W)
  obtain ⟨i0, hi, hz0, hz1, hz2⟩ := info_parts i64_info
  go_enter Tryz.func81, Tryz.ntmps81
  go_wp2_with (go_at_call 106; (with_reducible refine (HA _).out.mono ?_))
  rintro e w1 ⟨hb1, hc⟩
  have hrow0 : ∀ W, Below (w.alloc (.cells #[] 2)).heap.size (w.alloc (.cells #[] 2)) W → W.ownsRow w.heap.size 2 1 (.slice (some ⟨w.heap.size, 0, none⟩) 0 0) 0 [] := fun W hW => row_belowK ⟨rfl, .inr ⟨_, 0, #[], rfl, Nat.le_refl _, heap_alloc_new w _, Nat.le_refl _, by unfold maxLen; omega, rfl, rfl⟩⟩ hW
  have HROW := Lib.hid (hrow0 w1 hb1)
  have hb : Below w.heap.size w w1 := below_tr (ext_alloc (Below.refl _ _) _) hb1
  have key : ∃ (b : Bool) (t : ByteArray), e = .returned (.tuple #[.string t, .bool b]) ∧ t.size ≤ s.size ∧ NumsInv s.data.toList word.data.toList m 0 [] b t.data.toList := by
    rcases hc with ⟨r, h1, rfl⟩ | ⟨h1, rfl⟩
    · refine ⟨true, _, rfl, ?_, inv_start h1⟩
      rw [mk_size]
      have := congrArg List.length h1
      rw [List.length_append] at this
      have e : s.data.toList.length = s.size := bytesL_length s
      omega
    · exact ⟨false, _, rfl, Nat.le_refl _, inv_none h1⟩
  obtain ⟨b0, t0, rfl, ht0, hinv⟩ := key
  have HINV := Lib.hid hinv
  clear hc hinv hrow0 hb1
  go_wp2_with fail
  go_loopw [9, 10, 11, 12] (fun v9 v10 v11 v12 wr => ∃ (i : Nat) (cells : List Value) (b : Bool) (t : ByteArray), (i : Int) ≤ M ∧ v12 = .int .i64 i ∧ v11 = .bool b ∧ v10 = .string t ∧ t.size ≤ s.size ∧ wr.ownsRow w.heap.size 2 1 v9 i cells ∧ Below w.heap.size w wr ∧ Hid (NumsInv s.data.toList word.data.toList m i cells b t.data.toList)) (fun _ _ _ v12 _ => (M - intOf v12).toNat)
  case atStart => exact ⟨0, [], b0, t0, by omega, rfl, rfl, rfl, ht0, HROW.out, hb, HINV⟩
  case round =>
    clear HROW HINV ht0 hb
    obtain ⟨i, cells, b, t, him, rfl, rfl, rfl, hts, hrow, hb, hinv⟩ := hrel
    obtain ⟨Ao, co, rfl⟩ := row_valR hrow
    cases b
    · have HNO := Lib.hid (hinv.out.2 rfl)
      go_wp2_with fail
      go_ret3
      exact ⟨_, s, false, rfl, hb, hs, .inr ⟨rfl, HNO.out⟩⟩
    · by_cases hlt : (i : Int) < M
      · have HA2 := Lib.hid (after_ref t (ByteArray.mk #[32]) (by unfold WfS; omega) (by unfold WfS; decide) wr)
        go_wp2_with (go_at_call 106; (with_reducible refine HA2.out.mono ?_))
        rintro e w2 ⟨hb2, hc⟩
        have hil : i < m := by have := hM.out; omega
        have key : ∃ (ok : Bool) (q : ByteArray), e = .returned (.tuple #[.string q, .bool ok]) ∧ q.size ≤ s.size ∧ ((ok = true ∧ t.data.toList = 32 :: q.data.toList) ∨ (ok = false ∧ ∀ r, t.data.toList ≠ [32] ++ r)) := by
          rcases hc with ⟨r, h1, rfl⟩ | ⟨h1, rfl⟩
          · refine ⟨true, _, rfl, ?_, .inl ⟨rfl, h1⟩⟩
            rw [mk_size]
            have := congrArg List.length h1
            rw [List.length_append] at this
            have e : t.data.toList.length = t.size := bytesL_length t
            omega
          · exact ⟨false, _, rfl, hts, .inr ⟨rfl, h1⟩⟩
        obtain ⟨ok, q, rfl, hqs, hq⟩ := key
        have HQ := Lib.hid hq
        have HNR := Lib.hid (number_ref q (by unfold WfS; omega) w2)
        clear hc hq
        go_wp2_with (go_at_call 89; (with_reducible refine HNR.out.mono ?_))
        rintro e w3 ⟨hb3, hc⟩
        have key : ∃ (fits : Bool) (n : Int) (u : ByteArray), e = .returned (.tuple #[.int .i64 n, .string u, .bool fits]) ∧ u.size ≤ s.size ∧ ((fits = true ∧ NumL (digPre q.data.toList) n ∧ u.data.toList = q.data.toList.drop (digPre q.data.toList).length) ∨ (fits = false ∧ ∀ n, ¬ NumL (digPre q.data.toList) n)) := by
          rcases hc with ⟨n, h1, rfl⟩ | ⟨h1, rfl⟩
          · refine ⟨true, n, _, rfl, ?_, .inl ⟨rfl, h1, rfl⟩⟩
            rw [mk_size, List.length_drop]
            have e : q.data.toList.length = q.size := bytesL_length q
            omega
          · exact ⟨false, 0, _, rfl, hqs, .inr ⟨rfl, h1⟩⟩
        obtain ⟨fits, n, u, rfl, hus, hu⟩ := key
        have hinv2 : NumsInv s.data.toList word.data.toList m (i + 1) (cells ++ [intV n]) (ok && fits) u.data.toList := by
          rcases HQ.out with ⟨rfl, h1⟩ | ⟨rfl, h1⟩
          · rcases hu with ⟨rfl, h2, h3⟩ | ⟨rfl, h2⟩
            · rw [h3]; exact inv_step hinv.out hil h1 h2
            · exact inv_no2 hinv.out hil h1 h2
          · rw [Bool.false_and]; exact inv_no1 hinv.out hil h1
        have HINV2 := Lib.hid hinv2
        have hb23 : Below wr.heap.size wr w3 := below_tr hb2 hb3
        have hsz := hb.size
        have hsz2 := hb23.size
        clear hc hu hinv2 HQ HNR HA2 hinv hb2 hb3
        cases ok
        all_goals
          go_wp2_with (at_builtin; refine wpList_append_own _ rfl _ _ 115 rfl w.heap.size 2 i0 (.int .i64 0) 1 8 Tryz.underlying115 hi hz0 hz1 hz2 rfl (by decide) _ _ _ rfl (row_belowK hrow (ext_alloc hb23 _)) ⟨w3.heap.size, 0, none⟩ 1 1 [.int .i64 n] rfl rfl (news_allocR w3 [.int .i64 n] 2 rfl) (one_cellR rfl) (by unfold maxLen; omega) (by omega) (by simp; omega) ?_)
          intro v' w4 hown' hgrow _
          have hb4 : Below wr.heap.size wr (w3.alloc (.cells #[.int .i64 n] 2)) := ext_alloc hb23 _
          have hbz := (below_tr hb hb4).trans (below_of_grownK (row_belowK hrow hb4) (by simp; omega) hgrow)
          have HO := Lib.hid hown'
          clear hown' hgrow hb4 hrow
          go_wp2_with fail
          go_roundw
          case rel => exact ⟨i + 1, cells ++ [intV n], _, u, by omega, by go_num, rfl, rfl, hus, HO.out, hbz, HINV2⟩
          case measure => simp [intOf]; omega
      · have him : i = m := by have := hM.out; omega
        subst him
        have HA2 := Lib.hid (after_ref t (ByteArray.mk #[10]) (by unfold WfS; omega) (by unfold WfS; decide) wr)
        have HROW := Lib.hid hrow
        clear hrow
        go_wp2_with (go_at_call 106; (with_reducible refine HA2.out.mono ?_))
        rintro e w2 ⟨hb2, hc⟩
        rcases hc with ⟨r, h1, rfl⟩ | ⟨h1, rfl⟩
        · have HE := Lib.hid (inv_end hinv.out h1)
          have hrs : (ByteArray.mk r.toArray).size < 4294967281 := by
            rw [mk_size]
            have := congrArg List.length h1
            rw [List.length_append] at this
            have e : t.data.toList.length = t.size := bytesL_length t
            omega
          clear h1
          go_wp2_with fail
          go_ret3
          obtain ⟨ns, k1, k2, k3⟩ := HE.out
          refine ⟨_, _, true, rfl, below_tr hb hb2, hrs, .inl ⟨rfl, ns, k1, k2, ?_⟩⟩
          rw [← k3]
          exact row_belowK HROW.out hb2
        · have HE := Lib.hid (inv_end_no hinv.out h1)
          clear h1
          go_wp2_with fail
          go_ret3
          exact ⟨_, t, false, rfl, below_tr hb hb2, by omega, .inr ⟨rfl, HE.out⟩⟩
end Go.Proofs.YtljbclkbmjjmdaaGreatDoor
/- The walks of the reference's small numbers and fold; a spelled row of numbers is a line. -/
namespace Go.Proofs.YtljbclkbmjjmdaaGreatDoor
open Go.RowKit Go.Shelf
theorem good_chars {ns : List Int} (h : Good ns) (c : UInt8) (hc : c = 10 ∨ c = 32) : ∀ n ∈ ns, c ∉ Lib.itoa n := by
  intro n hn hm
  have h1 := (ok_of_num (good_num (h n hn))).1 c hm
  rcases hc with rfl | rfl <;> exact absurd h1 (by decide)
theorem flat_no10 {ns : List Int} (h : Good ns) : (10 : UInt8) ∉ flatN ns := by
  intro hm
  unfold flatN at hm
  obtain ⟨n, hn, hx⟩ := List.mem_flatMap.1 hm
  rcases List.mem_cons.1 hx with hx | hx
  · exact absurd hx (by decide)
  · exact good_chars h 10 (.inl rfl) n hn hx
theorem flat_words : ∀ {ns : List Int} (_ : Good ns) {word : List UInt8} (_ : (32 : UInt8) ∉ word), wordsL 32 (word ++ flatN ns) = word :: ns.map Lib.itoa
  | [], _, word, hw => by simp only [flatN, List.flatMap_nil, List.append_nil, List.map_nil]; exact wordsL_none hw
  | n :: t, h, word, hw => by
    have ht : Good t := fun m hm => h m (by simp [hm])
    rw [flatN_cons, wordsL_app _ hw, flat_words ht (good_chars h 32 (.inr rfl) n (by simp))]
    rfl
theorem join_words : ∀ (word : List UInt8) (ns : List Int), joinC 32 (word :: ns.map Lib.itoa) = word ++ flatN ns
  | word, [] => by simp [joinC, flatN]
  | word, n :: t => by rw [List.map_cons, joinC_cons _ _ _ (by simp), join_words, flatN_cons]
theorem spell_line {word r l : List UInt8} {ns : List Int} (h : Spell word ns r l) (h10 : (10 : UInt8) ∉ word) (h32 : (32 : UInt8) ∉ word) : Cut10 l (word ++ flatN ns) r ∧ wordsL 32 (word ++ flatN ns) = word :: ns.map Lib.itoa :=
  ⟨⟨h.1, fun hm => (List.mem_append.1 hm).elim h10 (flat_no10 h.2)⟩, flat_words h.2 h32⟩
theorem line_spell {word l a b : List UInt8} {ns : List Int} (hc : Cut10 l a b) (hw : wordsL 32 a = word :: ns.map Lib.itoa) (hg : Good ns) : Spell word ns b l :=
  ⟨by rw [hc.1, words_eq hw, join_words], hg⟩
theorem num_good {x : List UInt8} {n : Int} (h : NumL x n) : Wf .i64 n ∧ 0 ≤ n := ⟨h.1, h.2.2⟩
theorem good_1 {n : Int} (h : Wf .i64 n ∧ 0 ≤ n) : Good [n] := fun m hm => by rw [List.mem_singleton.1 hm]; exact h
theorem good_2 {n m : Int} (h : Wf .i64 n ∧ 0 ≤ n) (k : Wf .i64 m ∧ 0 ≤ m) : Good [n, m] := fun x hx => by
  simp at hx
  rcases hx with rfl | rfl
  · exact h
  · exact k
theorem stepJ1 {l r : List UInt8} {n : Int} {j x : Jb} {e m : Int} (h : Spell groupsW [n] r l) (hr : JobRun 2 r { j with groups := smallI n } x e m) : JobRun 1 l j x e m := by
  obtain ⟨hc, hw⟩ := spell_line h (by decide) (by decide)
  refine .step 1 l _ r j _ x e m (by decide) (by decide) hc ⟨[Lib.itoa n], hw, ?_⟩ hr
  rw [lineP1]
  exact ⟨_, n, rfl, good_num (h.2 n (by simp)), rfl⟩
theorem stepJ2 {l r : List UInt8} {n k : Int} {j x : Jb} {e m : Int} (h : Spell windowW [n, k] r l) (hr : JobRun 3 r { j with size := n, slide := k } x e m) : JobRun 2 l j x e m := by
  obtain ⟨hc, hw⟩ := spell_line h (by decide) (by decide)
  refine .step 2 l _ r j _ x e m (by decide) (by decide) hc ⟨[Lib.itoa n, Lib.itoa k], hw, ?_⟩ hr
  rw [lineP2]
  exact ⟨_, _, n, k, rfl, good_num (h.2 n (by simp)), good_num (h.2 k (by simp)), rfl⟩
theorem stepJ4 {l r : List UInt8} {n k : Int} {j x : Jb} {e m : Int} (h : Spell loopW [n, k] r l) (hr : JobRun 5 r { j with limit := n, fuel := smallI k } x e m) : JobRun 4 l j x e m := by
  obtain ⟨hc, hw⟩ := spell_line h (by decide) (by decide)
  refine .step 4 l _ r j _ x e m (by decide) (by decide) hc ⟨[Lib.itoa n, Lib.itoa k], hw, ?_⟩ hr
  rw [lineP4]
  exact ⟨_, _, n, k, rfl, good_num (h.2 n (by simp)), good_num (h.2 k (by simp)), rfl⟩
theorem stepJ5 {l r : List UInt8} {n : Int} {j x : Jb} {e m : Int} (h : Spell delayW [n] r l) (hr : JobRun 6 r { j with delay := n } x e m) : JobRun 5 l j x e m := by
  obtain ⟨hc, hw⟩ := spell_line h (by decide) (by decide)
  refine .step 5 l _ r j _ x e m (by decide) (by decide) hc ⟨[Lib.itoa n], hw, ?_⟩ hr
  rw [lineP5]
  exact ⟨_, n, rfl, good_num (h.2 n (by simp)), rfl⟩
theorem stepJ6 {l r : List UInt8} {n : Int} {j x : Jb} {e m : Int} (h : Spell idleW [n] r l) (hr : JobRun 7 r { j with idle := smallI n } x e m) : JobRun 6 l j x e m := by
  obtain ⟨hc, hw⟩ := spell_line h (by decide) (by decide)
  refine .step 6 l _ r j _ x e m (by decide) (by decide) hc ⟨[Lib.itoa n], hw, ?_⟩ hr
  rw [lineP6]
  exact ⟨_, n, rfl, good_num (h.2 n (by simp)), rfl⟩
theorem badJ1 {l : List UInt8} (j : Jb) (h : ∀ ns r, ns.length = 1 → ¬ Spell groupsW ns r l) : JobRun 1 l j zeroJ 131 1 := by
  refine .bad 1 l j (by decide) (by decide) fun a b j' hc hl => ?_
  obtain ⟨xs, hw, hp⟩ := hl
  rw [lineP1] at hp
  obtain ⟨x, n, rfl, hn, _⟩ := hp
  exact h [n] b rfl (line_spell hc (by rw [hw, hn.2.1]; rfl) (good_1 (num_good hn)))
theorem badJ2 {l : List UInt8} (j : Jb) (h : ∀ ns r, ns.length = 2 → ¬ Spell windowW ns r l) : JobRun 2 l j zeroJ 131 2 := by
  refine .bad 2 l j (by decide) (by decide) fun a b j' hc hl => ?_
  obtain ⟨xs, hw, hp⟩ := hl
  rw [lineP2] at hp
  obtain ⟨x, y, n, m, rfl, hn, hm, _⟩ := hp
  exact h [n, m] b rfl (line_spell hc (by rw [hw, hn.2.1, hm.2.1]; rfl) (good_2 (num_good hn) (num_good hm)))
theorem badJ4 {l : List UInt8} (j : Jb) (h : ∀ ns r, ns.length = 2 → ¬ Spell loopW ns r l) : JobRun 4 l j zeroJ 131 4 := by
  refine .bad 4 l j (by decide) (by decide) fun a b j' hc hl => ?_
  obtain ⟨xs, hw, hp⟩ := hl
  rw [lineP4] at hp
  obtain ⟨x, y, n, m, rfl, hn, hm, _⟩ := hp
  exact h [n, m] b rfl (line_spell hc (by rw [hw, hn.2.1, hm.2.1]; rfl) (good_2 (num_good hn) (num_good hm)))
theorem badJ5 {l : List UInt8} (j : Jb) (h : ∀ ns r, ns.length = 1 → ¬ Spell delayW ns r l) : JobRun 5 l j zeroJ 131 5 := by
  refine .bad 5 l j (by decide) (by decide) fun a b j' hc hl => ?_
  obtain ⟨xs, hw, hp⟩ := hl
  rw [lineP5] at hp
  obtain ⟨x, n, rfl, hn, _⟩ := hp
  exact h [n] b rfl (line_spell hc (by rw [hw, hn.2.1]; rfl) (good_1 (num_good hn)))
theorem badJ6 {l : List UInt8} (j : Jb) (h : ∀ ns r, ns.length = 1 → ¬ Spell idleW ns r l) : JobRun 6 l j zeroJ 131 6 := by
  refine .bad 6 l j (by decide) (by decide) fun a b j' hc hl => ?_
  obtain ⟨xs, hw, hp⟩ := hl
  rw [lineP6] at hp
  obtain ⟨x, n, rfl, hn, _⟩ := hp
  exact h [n] b rfl (line_spell hc (by rw [hw, hn.2.1]; rfl) (good_1 (num_good hn)))
/-- A line that names a fold. -/
def FoldS (f : Int) (r l : List UInt8) : Prop := foldB f = true ∧ l = foldW ++ 32 :: (foldL f ++ 10 :: r)
theorem fold_clean {f : Int} (h : foldB f = true) : (10 : UInt8) ∉ foldL f ∧ (32 : UInt8) ∉ foldL f := by
  simp only [foldB, decide_eq_true_eq] at h
  have c : f = 1 ∨ f = 2 ∨ f = 3 ∨ f = 4 ∨ f = 5 := by omega
  rcases c with rfl | rfl | rfl | rfl | rfl <;> decide
theorem stepJ3 {l r : List UInt8} {f : Int} {j x : Jb} {e m : Int} (h : FoldS f r l) (hr : JobRun 4 r { j with fold := f } x e m) : JobRun 3 l j x e m := by
  obtain ⟨c1, c2⟩ := fold_clean h.1
  have hc : Cut10 l (foldW ++ 32 :: foldL f) r := by
    refine ⟨by rw [h.2]; simp, fun hm => ?_⟩
    rcases List.mem_append.1 hm with hm | hm
    · exact absurd hm (by decide)
    · rcases List.mem_cons.1 hm with hm | hm
      · exact absurd hm (by decide)
      · exact c1 hm
  refine .step 3 l _ r j _ x e m (by decide) (by decide) hc ⟨[foldL f], ?_, ?_⟩ hr
  · rw [wordsL_app _ (by decide), wordsL_none c2]; rfl
  · rw [lineP3]
    exact ⟨_, f, rfl, h.1, rfl, rfl⟩
theorem badJ3 {l : List UInt8} (j : Jb) (h : ∀ f r, ¬ FoldS f r l) : JobRun 3 l j zeroJ 131 3 := by
  refine .bad 3 l j (by decide) (by decide) fun a b j' hc hl => ?_
  obtain ⟨xs, hw, hp⟩ := hl
  rw [lineP3] at hp
  obtain ⟨x, f, rfl, hf, rfl, _⟩ := hp
  refine h f b ⟨hf, ?_⟩
  have e := words_eq hw
  rw [show joinC 32 [wordJ 3, foldL f] = foldW ++ 32 :: foldL f by rw [joinC_cons _ _ _ (by simp), joinC_one]; rfl] at e
  rw [hc.1, e]
  simp
theorem small_ref (n : Int) (hn : Wf .i64 n) (w : World) : Calls Tryz.prog 83 #[.int .i64 n] w fun e w' => e = .returned (.int .i64 (smallI n)) ∧ w' = w := by
  rw [Wf.i64] at hn
  have HK := Lib.hid (show smallI n = if n ≤ 1073741824 then n else 1073741824 from by unfold smallI; rw [Int.min_def])
  go_enter Tryz.func83, Tryz.ntmps83
  by_cases h : n ≤ 1073741824
  · go_wp2
    go_ret
    rw [HK.out, if_pos h]
    simp
  · go_wp2
    go_ret
    rw [HK.out, if_neg (by omega)]
    simp
theorem fold_name (f : Int) (hf : foldB f = true) (w : World) : Calls Tryz.prog 107 #[.int .i64 f] w fun e w' => e = .returned (.string ⟨(foldL f).toArray⟩) ∧ w' = w := by
  simp only [foldB, decide_eq_true_eq] at hf
  have c : f = 1 ∨ f = 2 ∨ f = 3 ∨ f = 4 ∨ f = 5 := by omega
  rcases c with rfl | rfl | rfl | rfl | rfl
  all_goals
    go_enter Tryz.func107, Tryz.ntmps107
    go_wp2
    go_ret
    exact ⟨rfl, rfl⟩
def FoldPost (s : List UInt8) (w : World) (e : Ending) (w' : World) : Prop :=
  ∃ f r b, e = .returned (.tuple #[.int .i64 f, .string r, .bool b]) ∧ Below w.heap.size w w' ∧ r.size < 4294967281 ∧ ((b = true ∧ FoldS f r.data.toList s) ∨ (b = false ∧ ∀ f r, ¬ FoldS f r s))
def preF (f : Int) : List UInt8 := foldW ++ 32 :: (foldL f ++ [10])
theorem preF_eq (f : Int) (r l : List UInt8) : l = preF f ++ r ↔ l = foldW ++ 32 :: (foldL f ++ 10 :: r) := by unfold preF; simp
theorem pre_ba {f : Int} (hf : foldB f = true) : ByteArray.mk #[102, 111, 108, 100, 32] ++ ByteArray.mk (foldL f).toArray ++ ByteArray.mk #[10] = ByteArray.mk (preF f).toArray := by
  refine ba_ext ?_
  simp [preF, foldW, ByteArray.data_append]
theorem foldL_short {f : Int} (hf : foldB f = true) : (foldL f).length ≤ 20 := by
  simp only [foldB, decide_eq_true_eq] at hf
  have c : f = 1 ∨ f = 2 ∨ f = 3 ∨ f = 4 ∨ f = 5 := by omega
  rcases c with rfl | rfl | rfl | rfl | rfl <;> decide
set_option maxHeartbeats 1000000 in
set_option maxRecDepth 100000 in
theorem fold_line (s : ByteArray) (hs : s.size < 4294967281) (w : World) : Calls Tryz.prog 82 #[.string s] w (FoldPost s.data.toList w) := by
  have HA := fun (f : Int) (hf : foldB f = true) W => Lib.hid (after_ref s (ByteArray.mk (preF f).toArray) (by unfold WfS; omega) (by unfold WfS; rw [mk_size]; have := foldL_short hf; simp [preF, foldW]; omega) W)
  go_enter Tryz.func82, Tryz.ntmps82
  go_wp2_with fail
  go_loopw [5] (fun v5 wr => ∃ k : Nat, 1 ≤ k ∧ k ≤ 6 ∧ v5 = .int .i64 k ∧ Below w.heap.size w wr ∧ Hid (∀ f r, FoldS f r s.data.toList → (k : Int) ≤ f)) (fun v5 _ => 6 - (intOf v5).toNat)
  case atStart => exact ⟨1, by omega, by omega, rfl, by (repeat (first | exact Below.refl _ _ | assumption | refine ext_alloc ?_ _ | refine below_drewN ?_ _ | refine ext_drew ?_ | (refine below_tr ?_ (by assumption)))), Lib.hid (fun f r h => by have := h.1; simp [foldB] at this; omega)⟩
  case round =>
    obtain ⟨k, hk1, hk6, rfl, hb, hno⟩ := hrel
    by_cases hlt : k ≤ 5
    · have hf : foldB (k : Int) = true := by simp [foldB]; omega
      have HF := fun W => Lib.hid (fold_name k hf W)
      have HP := Lib.hid (pre_ba hf)
      have hsz := foldL_short hf
      have HFB := Lib.hid hf
      obtain ⟨fb, hfb⟩ : ∃ fb, fb = ByteArray.mk (foldL (k : Int)).toArray := ⟨_, rfl⟩
      have hfs : fb.size ≤ 20 := by rw [hfb, mk_size]; exact hsz
      rw [← hfb] at HF HP
      clear hf hfb hsz
      go_wp2_with (first | (go_at_call 107; (with_reducible refine (HF _).out.mono ?_); rintro e w1 ⟨rfl, rfl⟩) | (go_at_call 106; rw [HP.out]; (with_reducible refine (HA _ HFB.out _).out.mono ?_)))
      rintro e w2 ⟨hb2, hc⟩
      rcases hc with ⟨r, h1, rfl⟩ | ⟨h1, rfl⟩
      · have HH := Lib.hid (show FoldS (k : Int) r s.data.toList from ⟨HFB.out, (preF_eq _ _ _).1 h1⟩)
        have hrs : (ByteArray.mk r.toArray).size < 4294967281 := by
          rw [mk_size]
          have := congrArg List.length h1
          rw [List.length_append] at this
          have e : s.data.toList.length = s.size := bytesL_length s
          omega
        clear h1
        go_wp2_with fail
        go_ret3
        exact ⟨_, _, true, rfl, below_tr hb hb2, hrs, .inl ⟨rfl, HH.out⟩⟩
      · have HH := Lib.hid (show ∀ f r, FoldS f r s.data.toList → (k : Int) + 1 ≤ f from fun f r h => by
          have h2 := hno.out f r h
          by_cases e : f = k
          · subst e
            exact absurd ((preF_eq _ _ _).2 h.2) (h1 r)
          · omega)
        clear h1 hno
        go_wp2_with fail
        go_roundw
        case rel => exact ⟨k + 1, by omega, by omega, by go_num, below_tr hb hb2, HH⟩
        case measure => simp [intOf]; omega
    · have HH := Lib.hid (show ∀ f r, ¬ FoldS f r s.data.toList from fun f r h => by
        have h2 := hno.out f r h
        have := h.1
        simp [foldB] at this
        omega)
      clear hno
      go_wp2_with fail
      go_ret3
      exact ⟨0, s, false, rfl, hb, hs, .inr ⟨rfl, HH.out⟩⟩
end Go.Proofs.YtljbclkbmjjmdaaGreatDoor
