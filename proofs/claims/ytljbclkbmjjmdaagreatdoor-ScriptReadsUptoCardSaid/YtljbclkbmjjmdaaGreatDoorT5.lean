/- A source's line, as it is printed. -/
import Derived.Test.YtljbclkbmjjmdaaGreatDoorT4
import Derived.Test.YtljbclkbmjjmdaaGreatDoorReg
import Derived.Laws.AppendOwn
namespace Go.Proofs.YtljbclkbmjjmdaaGreatDoor
open Go.RowKit Go.Shelf
theorem cell_later2 {w w' : World} {a : Addr} {v : Value} (h : w.cell? a = some v) (hb : Below w.heap.size w w') : w'.cell? a = some v := by
  rw [hb.cell (block_lt_of_cell h)]; exact h
/-- What is known of each slot of the statement that appends an event's word. -/
def srcSlot (v4 : Value) (g6 : Nat) (e : Ev) (sa sv : ByteArray) (t : Tmp) (W : World) (v : Value) : Prop :=
  match t with
  | 4 => v = v4
  | 6 => v = .pointer (some ⟨g6, 0, none⟩)
  | 14 => v = v4
  | 15 => v = .pointer (some ⟨g6, 0, none⟩)
  | 16 => v = .string e.key
  | 17 => v = .string (e.key ++ ByteArray.mk #[64])
  | 18 => v = .pointer (some ⟨g6, 1, none⟩)
  | 19 => v = .int .i64 e.at_
  | 20 => v = .string sa
  | 21 => v = .string (e.key ++ ByteArray.mk #[64] ++ sa)
  | 22 => v = .string (e.key ++ ByteArray.mk #[64] ++ sa ++ ByteArray.mk #[58])
  | 23 => v = .pointer (some ⟨g6, 2, none⟩)
  | 24 => v = .int .i64 e.val
  | 25 => v = .string sv
  | 26 => v = .string (e.key ++ ByteArray.mk #[64] ++ sa ++ ByteArray.mk #[58] ++ sv)
  | 27 => ∃ g, v = .slice (some ⟨g, 0, none⟩) 1 1 ∧ W.cell? ⟨g, 0, none⟩ = some (.string (e.key ++ ByteArray.mk #[64] ++ sa ++ ByteArray.mk #[58] ++ sv))
  | _ => True
theorem srcSlot_mono (v4 : Value) (g6 : Nat) (e : Ev) (sa sv : ByteArray) (t : Tmp) (W W' : World) (v : Value) (h : srcSlot v4 g6 e sa sv t W v) (hb : Below W.heap.size W W') : srcSlot v4 g6 e sa sv t W' v := by
  unfold srcSlot at h ⊢
  split at h <;> first | exact h | (obtain ⟨g, hv, hc⟩ := h; exact ⟨g, hv, cell_later2 hc hb⟩)
theorem row_below {w w' : World} {B0 n : Nat} {e : TypeId} {v : Value} {xs : List Value} (h : w.ownsRow B0 e 1 v n xs) (hb : Below w.heap.size w w') : w'.ownsRow B0 e 1 v n xs := by
  refine ⟨h.1, ?_⟩
  rcases h.2 with hn | ⟨g, cap, cur, hv, hg, hh, r⟩
  · exact .inl hn
  · exact .inr ⟨g, cap, cur, hv, hg, (hb.block g (Array.getElem?_eq_some_iff.1 hh).1).trans hh, r⟩
theorem below_of_grown {B : Nat} {w w' : World} {v : Value} {n : Nat} {e : TypeId} {xs : List Value} (hr : w.ownsRow B e 1 v n xs) (hB : B ≤ w.heap.size) (hg : w.grownBy w' v.ownBlock) : Below B w w' := by
  refine ⟨hg.os, hg.tape, hg.output, hg.size, fun k hk => hg.block k (by omega) ?_⟩
  rcases hr.2 with ⟨rfl, _⟩ | ⟨g, cap, cur, rfl, hge, _⟩
  · intro h; cases h
  · intro h; have := Option.some.inj h; simp at this; omega
theorem string_info : (Tryz.prog.info? 9).map (fun i => (i.zero, i.size, i.bytes)) = some (some (.string (ByteArray.mk #[])), 1, 16) := by kernel_rfl
def frameIs (a : Act) : Nat → List Value → Prop
  | _, [] => True
  | k, v :: r => a.tmps.getD k undef = v ∧ frameIs a (k + 1) r
theorem frameIs_at {a : Act} : ∀ {vals : List Value} {k : Nat}, frameIs a k vals → ∀ (i : Nat) (hi : i < vals.length), a.tmps.getD (k + i) undef = vals[i]
  | v :: r, k, h, 0, hi => h.1
  | v :: r, k, h, i + 1, hi => by
    have := frameIs_at h.2 i (by simpa using hi)
    rw [show k + (i + 1) = k + 1 + i by omega]
    simpa using this
/-- A frame, of which each slot is known. -/
theorem frame_of {a : Act} {vals : List Value} (hd : a.defers = []) (hs : a.tmps.size = vals.length) (h : frameIs a 0 vals) : a = ⟨vals.toArray, []⟩ := by
  obtain ⟨tm, df⟩ := a
  have hd : df = [] := hd
  subst hd
  have : tm = vals.toArray := by
    apply Array.ext
    · simpa using hs
    · intro i h1 h2
      have h3 : i < vals.length := by simpa using h2
      have := frameIs_at h i h3
      simp at this
      have hi : i < tm.size := h1
      simpa [hi] using this
  rw [this]
def evS (e : Ev) : ByteArray := ByteArray.mk (evL e).toArray
def srcS : ByteArray := ByteArray.mk srcWord.toArray
theorem evS_eq (e : Ev) : evS e = e.key ++ ByteArray.mk #[64] ++ ByteArray.mk (Lib.itoa e.at_).toArray ++ ByteArray.mk #[58] ++ ByteArray.mk (Lib.itoa e.val).toArray := by
  apply ByteArray.ext
  apply Array.ext'
  simp [evS, evL, bytesL, ByteArray.data_append]
theorem row_src (W : World) (B0 : Nat) (h : B0 ≤ W.heap.size) : (W.alloc (.cells #[.string srcS] 9)).ownsRow B0 9 1 (.slice (some ⟨W.heap.size, 0, none⟩) 1 1) 1 [.string srcS] := by
  refine ⟨by simp, .inr ⟨W.heap.size, 1, #[.string srcS], rfl, h, heap_alloc_new W _, Nat.le_refl _, by unfold maxLen; omega, by simp, rfl⟩⟩
set_option maxHeartbeats 4000000 in
set_option maxRecDepth 100000 in
theorem source_calls (B b : Nat) (l : List UInt8) (v : Value) (es : List Ev) (w : World) (hs : Sl 3 rEv w v es) (h : PrAt B b l w) (hB : B ≤ w.heap.size) (ht : Tab w) (hlen : l.length + (sourceL es).length ≤ 140737488355328) (hn : es.length ≤ 200) (hkey : ∀ e ∈ es, e.key.size ≤ 16) :
    Calls Tryz.prog 31 #[.pointer (some ⟨b, 0, none⟩), v] w fun e w' => e = .returned (.tuple #[]) ∧ PrAt B b (l ++ sourceL es) w' ∧ Below B w w' ∧ Kept b w w' := by
  obtain ⟨A, c, rfl, hs, hc, hm⟩ := hs
  go_enter Tryz.func31, Tryz.ntmps31
  go_wp2_with fail
  go_loopw [4, 10] (fun v4 v10 wr => ∃ k : Nat, k ≤ es.length ∧ v10 = .int .i64 k ∧ wr.ownsRow w.heap.size 9 1 v4 (k + 1) ((srcS :: (es.take k).map evS).map .string) ∧ Below w.heap.size w wr) (fun _ v10 _ => es.length - (intOf v10).toNat)
  case atStart => exact ⟨0, Nat.zero_le _, rfl, row_src w _ (Nat.le_refl _), by (repeat (first | exact Below.refl _ _ | assumption | refine ext_alloc ?_ _ | refine below_drewN ?_ _ | refine ext_drew ?_ | (refine below_tr ?_ (by assumption))))⟩
  case round =>
   obtain ⟨k, hk, rfl, hrow, hb⟩ := hrel
   by_cases hlt : k < es.length
   · obtain ⟨bb, o, x0, x1, x2, rfl, hz, ⟨hcs, hwf⟩, e0, e1, e2⟩ := hs.three k hlt
     obtain ⟨e, he⟩ : ∃ e, e = es[k] := ⟨_, rfl⟩
     have hkl : es[k].key.size ≤ 16 := hkey _ (List.getElem_mem _)
     rw [← he] at hcs hwf hkl
     injection hcs with q0 hcs; injection hcs with q1 hcs; injection hcs with q2 hcs
     subst q0 q1 q2
     have hcb := (bcell hb).1
     have f0 : wr.cell? ⟨bb, o + k * 3, none⟩ = some (.string e.key) := (hcb _ _ hz).trans e0
     have f1 : wr.cell? ⟨bb, o + k * 3 + 1, none⟩ = some (.int .i64 e.at_) := (hcb _ _ hz).trans e1
     have f2 : wr.cell? ⟨bb, o + k * 3 + 2, none⟩ = some (.int .i64 e.val) := (hcb _ _ hz).trans e2
     clear hcb e0 e1 e2
     obtain ⟨sa, hsa⟩ : ∃ sa, sa = ByteArray.mk (Lib.itoa e.at_).toArray := ⟨_, rfl⟩
     obtain ⟨sv, hsv⟩ : ∃ sv, sv = ByteArray.mk (Lib.itoa e.val).toArray := ⟨_, rfl⟩
     have hha := fun W (hT : Tab W) => fmt_int e.at_ hwf.2.1 W hT
     have hhv := fun W (hT : Tab W) => fmt_int e.val hwf.2.2 W hT
     rw [← hsa] at hha
     rw [← hsv] at hhv
     have hla : sa.size ≤ 20 := by rw [hsa, mk_size]; exact itoa_len _ hwf.2.1
     have hlv : sv.size ≤ 20 := by rw [hsv, mk_size]; exact itoa_len _ hwf.2.2
     have hev : evS e = e.key ++ ByteArray.mk #[64] ++ sa ++ ByteArray.mk #[58] ++ sv := by rw [hsa, hsv]; exact evS_eq e
     have htk : es.take (k + 1) = es.take k ++ [e] := by rw [List.take_succ_eq_append_getElem hlt, he]
     have HX := Lib.hid (show evS e = e.key ++ ByteArray.mk #[64] ++ sa ++ ByteArray.mk #[58] ++ sv ∧ es.take (k + 1) = es.take k ++ [e] from ⟨hev, htk⟩)
     have htr : Tab wr := ht.mono hb
     have HH := Lib.hid (show (∀ W, Tab W → Calls Tryz.prog 55 #[.int .i64 e.at_, .int .i64 10] W fun r w' => r = .returned (.string sa) ∧ Below W.heap.size W w') ∧ (∀ W, Tab W → Calls Tryz.prog 55 #[.int .i64 e.val, .int .i64 10] W fun r w' => r = .returned (.string sv) ∧ Below W.heap.size W w') from ⟨hha, hhv⟩)
     clear hev htk hsa hsv hha hhv hlen h hs hc hm he hkey
     have m1 : ¬ 9223372036854775807 < e.key.size + 1 := by omega
     have m2 : ¬ 9223372036854775807 < e.key.size + 1 + sa.size := by omega
     have m3 : ¬ 9223372036854775807 < e.key.size + 1 + sa.size + 1 := by omega
     have m4 : ¬ 9223372036854775807 < e.key.size + 1 + sa.size + 1 + sv.size := by omega
     obtain ⟨W0, hW0⟩ : ∃ W0, W0 = wr.alloc (.cells #[.string e.key, .int .i64 e.at_, .int .i64 e.val] 82) := ⟨_, rfl⟩
     have hbx : Below wr.heap.size wr W0 := by rw [hW0]; exact (Below.refl _ wr).alloc (Nat.le_refl _) _
     have c0 : W0.cell? ⟨wr.heap.size, 0, none⟩ = some (.string e.key) := by rw [hW0]; exact box_cell _ _ _ _ _ rfl
     have c1 : W0.cell? ⟨wr.heap.size, 1, none⟩ = some (.int .i64 e.at_) := by rw [hW0]; exact box_cell _ _ _ _ _ rfl
     have c2 : W0.cell? ⟨wr.heap.size, 2, none⟩ = some (.int .i64 e.val) := by rw [hW0]; exact box_cell _ _ _ _ _ rfl
     have hg6 : wr.heap.size < W0.heap.size := by rw [hW0]; simp
     have htx : Tab W0 := htr.mono hbx
     have HW0 := Lib.hid hW0
     clear hW0
     go_wp2_with fail
     rw [← HW0.out]
     refine wp_region_tail (by kernel_rfl) 14 [4, 6] (by kernel_rfl) (fun a b => Below a.heap.size a b) (fun a b c h k => below_tr h k) (ext_drew (Below.refl _ _)) (srcSlot u4 wr.heap.size e sa sv) (fun t W W' v h hb => srcSlot_mono u4 _ _ _ _ t W W' v h hb) ?_ ?_ ?_
     · intro t ht W hW
       rcases List.mem_cons.1 ht with rfl | ht
       · exact rfl
       · rcases List.mem_cons.1 ht with rfl | ht
         · exact rfl
         · cases ht
     · refine ⟨?_, ?_, ?_, ?_, ?_, ?_, ?_, ?_, ?_, ?_, ?_, ?_, ?_, ?_, trivial⟩
       · intro a W hG hk K hK
         have h4 : a.tmps.getD 4 undef = u4 := hk 4 (List.mem_of_elem_eq_true (by kernel_rfl))
         clear hk
         simp only [Array.getD_eq_getD_getElem?] at h4 ⊢
         go_simp
         exact hK _ _ (by rintro d ⟨⟩; rfl) (Below.refl _ _)
       · intro a W hG hk K hK
         have h6 : a.tmps.getD 6 undef = .pointer (some ⟨wr.heap.size, 0, none⟩) := hk 6 (List.mem_of_elem_eq_true (by kernel_rfl))
         clear hk
         simp only [Array.getD_eq_getD_getElem?] at h6 ⊢
         go_simp
         exact hK _ _ (by rintro d ⟨⟩; rfl) (Below.refl _ _)
       · intro a W hG hk K hK
         have h15 : a.tmps.getD 15 undef = .pointer (some ⟨wr.heap.size, 0, none⟩) := hk 15 (List.mem_of_elem_eq_true (by kernel_rfl))
         clear hk
         have hc : W.cell? ⟨wr.heap.size, 0, none⟩ = some (.string e.key) := ((bcell hG).1 _ _ hg6).trans c0
         simp only [Array.getD_eq_getD_getElem?] at h15 ⊢
         go_simp
         exact hK _ _ (by rintro d ⟨⟩; rfl) (Below.refl _ _)
       · intro a W hG hk K hK
         have h16 : a.tmps.getD 16 undef = .string e.key := hk 16 (List.mem_of_elem_eq_true (by kernel_rfl))
         clear hk
         simp only [Array.getD_eq_getD_getElem?] at h16 ⊢
         go_simp
         exact hK _ _ (by rintro d ⟨⟩; rfl) (Below.refl _ _)
       · intro a W hG hk K hK
         have h6 : a.tmps.getD 6 undef = .pointer (some ⟨wr.heap.size, 0, none⟩) := hk 6 (List.mem_of_elem_eq_true (by kernel_rfl))
         clear hk
         simp only [Array.getD_eq_getD_getElem?] at h6 ⊢
         go_simp
         exact hK _ _ (by rintro d ⟨⟩; rfl) (Below.refl _ _)
       · intro a W hG hk K hK
         have h18 : a.tmps.getD 18 undef = .pointer (some ⟨wr.heap.size, 1, none⟩) := hk 18 (List.mem_of_elem_eq_true (by kernel_rfl))
         clear hk
         have hc : W.cell? ⟨wr.heap.size, 1, none⟩ = some (.int .i64 e.at_) := ((bcell hG).1 _ _ hg6).trans c1
         simp only [Array.getD_eq_getD_getElem?] at h18 ⊢
         go_simp
         exact hK _ _ (by rintro d ⟨⟩; rfl) (Below.refl _ _)
       · intro a W hG hk K hK
         have h19 : a.tmps.getD 19 undef = .int .i64 e.at_ := hk 19 (List.mem_of_elem_eq_true (by kernel_rfl))
         clear hk
         have hT : Tab W := htx.mono hG
         simp only [Array.getD_eq_getD_getElem?] at h19 ⊢
         go_simp
         refine (HH.out.1 _ hT).mono ?_
         rintro r w1 ⟨rfl, hb1⟩
         exact hK _ _ (by rintro d ⟨⟩; rfl) hb1
       · intro a W hG hk K hK
         have h17 : a.tmps.getD 17 undef = .string (e.key ++ ByteArray.mk #[64]) := hk 17 (List.mem_of_elem_eq_true (by kernel_rfl))
         have h20 : a.tmps.getD 20 undef = .string sa := hk 20 (List.mem_of_elem_eq_true (by kernel_rfl))
         clear hk
         simp only [Array.getD_eq_getD_getElem?] at h17 h20 ⊢
         go_simp
         exact hK _ _ (by rintro d ⟨⟩; rfl) (Below.refl _ _)
       · intro a W hG hk K hK
         have h21 : a.tmps.getD 21 undef = .string (e.key ++ ByteArray.mk #[64] ++ sa) := hk 21 (List.mem_of_elem_eq_true (by kernel_rfl))
         clear hk
         simp only [Array.getD_eq_getD_getElem?] at h21 ⊢
         go_simp
         exact hK _ _ (by rintro d ⟨⟩; rfl) (Below.refl _ _)
       · intro a W hG hk K hK
         have h6 : a.tmps.getD 6 undef = .pointer (some ⟨wr.heap.size, 0, none⟩) := hk 6 (List.mem_of_elem_eq_true (by kernel_rfl))
         clear hk
         simp only [Array.getD_eq_getD_getElem?] at h6 ⊢
         go_simp
         exact hK _ _ (by rintro d ⟨⟩; rfl) (Below.refl _ _)
       · intro a W hG hk K hK
         have h23 : a.tmps.getD 23 undef = .pointer (some ⟨wr.heap.size, 2, none⟩) := hk 23 (List.mem_of_elem_eq_true (by kernel_rfl))
         clear hk
         have hc : W.cell? ⟨wr.heap.size, 2, none⟩ = some (.int .i64 e.val) := ((bcell hG).1 _ _ hg6).trans c2
         simp only [Array.getD_eq_getD_getElem?] at h23 ⊢
         go_simp
         exact hK _ _ (by rintro d ⟨⟩; rfl) (Below.refl _ _)
       · intro a W hG hk K hK
         have h24 : a.tmps.getD 24 undef = .int .i64 e.val := hk 24 (List.mem_of_elem_eq_true (by kernel_rfl))
         clear hk
         have hT : Tab W := htx.mono hG
         simp only [Array.getD_eq_getD_getElem?] at h24 ⊢
         go_simp
         refine (HH.out.2 _ hT).mono ?_
         rintro r w1 ⟨rfl, hb1⟩
         exact hK _ _ (by rintro d ⟨⟩; rfl) hb1
       · intro a W hG hk K hK
         have h22 : a.tmps.getD 22 undef = .string (e.key ++ ByteArray.mk #[64] ++ sa ++ ByteArray.mk #[58]) := hk 22 (List.mem_of_elem_eq_true (by kernel_rfl))
         have h25 : a.tmps.getD 25 undef = .string sv := hk 25 (List.mem_of_elem_eq_true (by kernel_rfl))
         clear hk
         simp only [Array.getD_eq_getD_getElem?] at h22 h25 ⊢
         go_simp
         exact hK _ _ (by rintro d ⟨⟩; rfl) (Below.refl _ _)
       · intro a W hG hk K hK
         have h26 : a.tmps.getD 26 undef = .string (e.key ++ ByteArray.mk #[64] ++ sa ++ ByteArray.mk #[58] ++ sv) := hk 26 (List.mem_of_elem_eq_true (by kernel_rfl))
         clear hk
         simp only [Array.getD_eq_getD_getElem?] at h26 ⊢
         go_simp
         exact hK _ _ (by rintro d ⟨⟩; exact ⟨_, rfl, box_cell _ _ _ _ _ rfl⟩) (by (repeat (first | exact Below.refl _ _ | assumption | refine ext_alloc ?_ _ | refine below_drewN ?_ _ | refine ext_drew ?_ | (refine below_tr ?_ (by assumption)))))
     · intro a W hG hd hs hold hnew
       obtain ⟨g, h27, hcg⟩ := hnew 27 13 (by kernel_rfl)
       obtain rfl : a = ⟨#[.pointer (some ⟨b, 0, none⟩), .slice (some ⟨bb, o, none⟩) es.length c, undef, undef, u4, undef, .pointer (some ⟨wr.heap.size, 0, none⟩), .slice (some ⟨w.heap.size, 0, none⟩) 1 1, .slice (some ⟨bb, o, none⟩) es.length c, .int .i64 es.length, .int .i64 k, .bool true, .pointer (some ⟨bb, o + k * 3, none⟩), .agg #[.string e.key, .int .i64 e.at_, .int .i64 e.val], u4, .pointer (some ⟨wr.heap.size, 0, none⟩), .string e.key, .string (e.key ++ ByteArray.mk #[64]), .pointer (some ⟨wr.heap.size, 1, none⟩), .int .i64 e.at_, .string sa, .string (e.key ++ ByteArray.mk #[64] ++ sa), .string (e.key ++ ByteArray.mk #[64] ++ sa ++ ByteArray.mk #[58]), .pointer (some ⟨wr.heap.size, 2, none⟩), .int .i64 e.val, .string sv, .string (e.key ++ ByteArray.mk #[64] ++ sa ++ ByteArray.mk #[58] ++ sv), .slice (some ⟨g, 0, none⟩) 1 1, u28, u29, undef, undef, undef], []⟩ := frame_of hd hs ⟨hold 0 (by kernel_rfl), hold 1 (by kernel_rfl), hold 2 (by kernel_rfl), hold 3 (by kernel_rfl), hold 4 (by kernel_rfl), hold 5 (by kernel_rfl), hold 6 (by kernel_rfl), hold 7 (by kernel_rfl), hold 8 (by kernel_rfl), hold 9 (by kernel_rfl), hold 10 (by kernel_rfl), hold 11 (by kernel_rfl), hold 12 (by kernel_rfl), hold 13 (by kernel_rfl), hnew 14 0 (by kernel_rfl), hnew 15 1 (by kernel_rfl), hnew 16 2 (by kernel_rfl), hnew 17 3 (by kernel_rfl), hnew 18 4 (by kernel_rfl), hnew 19 5 (by kernel_rfl), hnew 20 6 (by kernel_rfl), hnew 21 7 (by kernel_rfl), hnew 22 8 (by kernel_rfl), hnew 23 9 (by kernel_rfl), hnew 24 10 (by kernel_rfl), hnew 25 11 (by kernel_rfl), hnew 26 12 (by kernel_rfl), h27, hold 28 (by kernel_rfl), hold 29 (by kernel_rfl), hold 30 (by kernel_rfl), hold 31 (by kernel_rfl), hold 32 (by kernel_rfl), trivial⟩
       have hbw := below_tr hbx hG
       have hrow' := row_below hrow hbw
       clear hold hnew hd hs h27 hrow c0 c1 c2 htx
       obtain ⟨i0, hi, hz0, hz1, hz2⟩ := info_parts string_info
       show wpList _ _ _ [_, _] _ _
       have hsz1 := hbw.size
       have hsz2 := hb.size
       go_wp2_with (at_builtin; refine wpList_append_own _ rfl _ _ 37 rfl w.heap.size 9 i0 (.string (ByteArray.mk #[])) 1 16 Tryz.underlying37 hi hz0 hz1 hz2 rfl (by decide) _ _ _ rfl hrow' ⟨g, 0, none⟩ 1 1 [.string (e.key ++ ByteArray.mk #[64] ++ sa ++ ByteArray.mk #[58] ++ sv)] rfl rfl ?c1 ?c2 ?c3 ?c4 ?c5 ?_)
       case c1 =>
         intro j u hj
         match j, hj with
         | 0, hj => simp at hj; subst hj; simpa [Addr.add] using hcg
       case c2 => intro u hu; simp at hu; subst hu; rfl
       case c3 => unfold maxLen; omega
       case c4 => omega
       case c5 => omega
       intro v' w2 hown' hgrow _
       have hbz : Below w.heap.size w w2 := ((hb.trans (hbw.mono (by omega))).trans (below_of_grown hrow' (by omega) hgrow))
       rw [← HX.out.1] at hown'
       go_wp2_with fail
       go_roundw
       case rel => exact ⟨k + 1, by omega, by go_num, by rw [HX.out.2]; simpa using hown', hbz⟩
       case measure => simp [intOf]; omega
   · have hall : es.take k = es := List.take_of_length_le (by omega)
     rw [hall] at hrow
     have hke : k = es.length := by omega
     subst hke
     have hsl : (srcS :: es.map evS).map bytesL = srcWord :: es.map evL := by
       simp [srcS, evS, bytesL]
     have hL : lineL ((srcS :: es.map evS).map bytesL) = sourceL es := by rw [hsl]; rfl
     have hcall := line_calls B b w.heap.size l u4 (srcS :: es.map evS) wr (PrAt.ext h hb) (by have := hb.size; omega) (by simpa using hrow) (by rw [hL]; exact hlen) (by simp; omega)
     rw [hL] at hcall
     have HC := Lib.hid hcall
     clear hcall hL hsl hall hrow h hs hc hm hlen
     go_wp2_with (go_at_call 29; refine HC.out.mono ?_; rintro r w1 ⟨rfl, hp1, hb1, hk1⟩)
     go_end0
     exact ⟨rfl, hp1, (hb.mono hB).trans hb1, (Kept.of_ext hb).trans hk1⟩
end Go.Proofs.YtljbclkbmjjmdaaGreatDoor
