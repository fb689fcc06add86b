/- The walk of an act that is read. -/
import Derived.Test.YtljbclkbmjjmdaaGreatDoorP3
namespace Go.Proofs.YtljbclkbmjjmdaaGreatDoor
open Go.RowKit Go.Shelf
def ActPost (ws : List (List UInt8)) (w : World) (e : Ending) (w' : World) : Prop :=
  ∃ a b, e = .returned (.tuple #[.agg #[.int .i64 a.what, .int .i64 a.who, .int .i64 a.which], .bool b]) ∧ Ac.wf a ∧ Below w.heap.size w w' ∧ ((b = true ∧ ActIs ws a) ∨ (b = false ∧ ∀ c, ¬ ActIs ws c))
theorem act_needs (k : Int) (h0 : 0 ≤ k) (h9 : k ≤ 9) : needs k = 0 ∨ needs k = 1 ∨ needs k = 2 := by
  rcases kinds k with h | h
  · exact h.2.2.2
  · exact absurd ⟨h0, h9⟩ h.2
theorem wf_small {n : Int} (h : -100 ≤ n) (h2 : n ≤ 1000000000) : Wf .i64 n := by rw [Wf.i64]; omega
theorem wf_zero : Wf .i64 0 := by rw [Wf.i64]; omega
theorem act_only {ws : List (List UInt8)} {x : List UInt8} {xs : List (List UInt8)} (hws : ws = x :: xs) {k : Int} (h0 : 0 ≤ k) (h9 : k ≤ 9) (he : wordL k = x) {c : Ac} (hc : ActIs ws c) : c.what = k ∧ ((needs k = 0 ∧ xs = [] ∧ c.which = 0 ∧ c.who = 0) ∨
     (needs k = 1 ∧ (∃ x, xs = [x] ∧ NumL x c.which) ∧ c.which ≤ 1000000 ∧ c.who = 0) ∨
     (needs k = 2 ∧ (∃ x, xs = [x] ∧ NumL x c.who) ∧ c.who ≤ 1000000 ∧ c.which = 0)) := by
  obtain ⟨ys, e, c0, c9, h⟩ := hc
  rw [hws] at e
  injection e with e1 e2
  subst e2
  have := wordL_inj ⟨c0, c9⟩ ⟨h0, h9⟩ (e1.symm.trans he.symm)
  rw [this] at h
  exact ⟨this, h⟩
theorem act_none {ws : List (List UInt8)} {x : List UInt8} {xs : List (List UInt8)} (hws : ws = x :: xs) (h : ∀ k : Int, 0 ≤ k → k ≤ 9 → wordL k ≠ x) (c : Ac) : ¬ ActIs ws c := by
  rintro ⟨ys, e, c0, c9, _⟩
  rw [hws] at e
  injection e with e1 _
  exact h _ c0 c9 e1.symm
theorem st3_heap {W : World} {r : Nat} {y0 y1 y2 : Value} (z0 z1 z2 : Value) {T : TypeId} (h : W.heap[r]? = some (.cells #[y0, y1, y2] T (0, 0))) :
    (((W.setCell ⟨r, 0, none⟩ z0).setCell ⟨r, 1, none⟩ z1).setCell ⟨r, 2, none⟩ z2).heap[r]? = some (.cells #[z0, z1, z2] T (0, 0)) := (store3 W r y0 y1 y2 z0 z1 z2 T h).1
theorem heap_alloc_keep {W : World} {r : Nat} {x : Obj} (O : Obj) (h : W.heap[r]? = some x) : (W.alloc O).heap[r]? = some x :=
  (((Below.refl W.heap.size W).alloc (Nat.le_refl _) O).block r (Array.getElem?_eq_some_iff.1 h).1).trans h
theorem heap_setCell_keep {W : World} {r g o : Nat} {v : Value} {x : Obj} (hne : g ≠ r) (h : W.heap[r]? = some x) : (W.setCell ⟨g, o, none⟩ v).heap[r]? = some x := by
  rw [Deep.blk_setCell_other _ _ _ _ (Ne.symm hne)]; exact h
theorem act_info : (Tryz.prog.info? 52).map (·.size) = some 3 := by kernel_rfl
theorem act_struct : ∃ fs, Tryz.prog.underlying 52 = some (.struct fs) := by
  have h : (match Tryz.prog.underlying 52 with | some (.struct _) => true | _ => false) = true := by kernel_rfl
  split at h
  · rename_i fs hu; exact ⟨fs, hu⟩
  · cases h
/-- How an act ends that is returned. -/
theorem act_post {ws : List (List UInt8)} {w w' : World} (a : Ac) (b : Bool) (hw : a.wf) (hb : Below w.heap.size w w') (h : (b = true ∧ ActIs ws a) ∨ (b = false ∧ ∀ c, ¬ ActIs ws c)) :
    ActPost ws w (.returned (.tuple #[.agg #[.int .i64 a.what, .int .i64 a.who, .int .i64 a.which], .bool b])) w' := ⟨a, b, rfl, hw, hb, h⟩
theorem act_yes {ws : List (List UInt8)} {xs : List ByteArray} {x : ByteArray} (hws : ws = bytesL x :: xs.map bytesL) {k : Nat} (hk : k ≤ 9) (he : wordL (k : Int) = bytesL x) (hn : needs (k : Int) = 0) (hx : xs = []) : ActIs ws ⟨k, 0, 0⟩ :=
  ⟨[], by rw [hws, hx]; simp [he], by show (0 : Int) ≤ k; omega, by show (k : Int) ≤ 9; omega, .inl ⟨hn, rfl, rfl, rfl⟩⟩
theorem act_no0 {ws : List (List UInt8)} {xs : List ByteArray} {x : ByteArray} (hws : ws = bytesL x :: xs.map bytesL) {k : Nat} (hk : k ≤ 9) (he : wordL (k : Int) = bytesL x) (hn : needs (k : Int) = 0) (hx : xs.length ≠ 0) (c : Ac) : ¬ ActIs ws c := fun hc => by
  obtain ⟨_, h⟩ := act_only hws (by omega) (by omega) he hc
  rcases h with h | h | h
  · have := congrArg List.length h.2.1
    rw [List.length_map] at this
    exact hx this
  · have := h.1; omega
  · have := h.1; omega
theorem act_no1 {ws : List (List UInt8)} {xs : List ByteArray} {x : ByteArray} (hws : ws = bytesL x :: xs.map bytesL) {k : Nat} (hk : k ≤ 9) (he : wordL (k : Int) = bytesL x) (hn : needs (k : Int) ≠ 0) (hx : xs.length ≠ 1) (c : Ac) : ¬ ActIs ws c := fun hc => by
  obtain ⟨_, h⟩ := act_only hws (by omega) (by omega) he hc
  rcases h with h | h | h
  · exact hn h.1
  · obtain ⟨_, ⟨y, hy, _⟩, _⟩ := h
    have := congrArg List.length hy
    rw [List.length_map] at this
    exact hx this
  · obtain ⟨_, ⟨y, hy, _⟩, _⟩ := h
    have := congrArg List.length hy
    rw [List.length_map] at this
    exact hx this
theorem act_num {ws : List (List UInt8)} {y x : ByteArray} (hws : ws = bytesL x :: [y].map bytesL) {k : Nat} (hk : k ≤ 9) (he : wordL (k : Int) = bytesL x) (hn : needs (k : Int) = 1 ∨ needs (k : Int) = 2) {n : Int} {b : Bool} (hw : Wf .i64 n)
    (h : (b = true ∧ IsNum y n ∧ 0 ≤ n ∧ n ≤ 1000000) ∨ (b = false ∧ ∀ v, IsNum y v → ¬ (0 ≤ v ∧ v ≤ 1000000))) :
    (needs (k : Int) = 1 → (b = true ∧ ActIs ws ⟨k, 0, n⟩) ∨ (b = false ∧ ∀ c, ¬ ActIs ws c)) ∧ (needs (k : Int) = 2 → (b = true ∧ ActIs ws ⟨k, n, 0⟩) ∨ (b = false ∧ ∀ c, ¬ ActIs ws c)) := by
  rcases h with ⟨rfl, hy, h0, h1⟩ | ⟨rfl, hno⟩
  · have hN : NumL (bytesL y) n := ⟨hy.1, hy.2, h0⟩
    refine ⟨fun hn => .inl ⟨rfl, [bytesL y], by rw [hws]; simp [he], by show (0 : Int) ≤ k; omega, by show (k : Int) ≤ 9; omega, .inr (.inl ⟨hn, ⟨_, rfl, hN⟩, h1, rfl⟩)⟩, fun hn => .inl ⟨rfl, [bytesL y], by rw [hws]; simp [he], by show (0 : Int) ≤ k; omega, by show (k : Int) ≤ 9; omega, .inr (.inr ⟨hn, ⟨_, rfl, hN⟩, h1, rfl⟩)⟩⟩
  · have hz : ∀ c, ¬ ActIs ws c := fun c hc => by
      obtain ⟨_, h⟩ := act_only hws (by omega) (by omega) he hc
      rcases h with h | ⟨_, ⟨z, hz, hN⟩, hm, _⟩ | ⟨_, ⟨z, hz, hN⟩, hm, _⟩
      · have := h.1; omega
      · injection hz with hz _
        exact hno _ ⟨hN.1, by rw [← hN.2.1, ← hz]; rfl⟩ ⟨hN.2.2, hm⟩
      · injection hz with hz _
        exact hno _ ⟨hN.1, by rw [← hN.2.1, ← hz]; rfl⟩ ⟨hN.2.2, hm⟩
    exact ⟨fun _ => .inr ⟨rfl, hz⟩, fun _ => .inr ⟨rfl, hz⟩⟩
set_option maxHeartbeats 1000000 in
set_option maxRecDepth 100000 in
theorem act_read (ws : List (List UInt8)) (x : ByteArray) (xs : List ByteArray) (v : Value) (w : World) (hs : Sl 1 rStr w v (x :: xs)) (h : Env w) (hl : ∀ y ∈ xs, y.size < 4294967281) (hws : Hid (ws = bytesL x :: xs.map bytesL)) :
    Calls Tryz.prog 19 #[v] w (ActPost ws w) := by
  obtain ⟨A, c, rfl, hs, hc, hm⟩ := hs
  obtain ⟨b, o, rfl, hb0, hst, u, ⟨hu, hxw⟩, hcell⟩ := sl_tail hs
  injection hu with hu
  subst hu
  clear hs
  simp only [List.length_cons] at hc ⊢
  have HN := fun n (h0 : 0 ≤ n) (h9 : n ≤ 9) => Lib.hid (act_needs n h0 h9)
  go_enter Tryz.func19, Tryz.ntmps19
  go_wp2_with fail
  go_loopw [4] (fun v4 wr => ∃ k : Nat, k ≤ 10 ∧ v4 = .int .i64 k ∧ Hid (∀ i : Int, 0 ≤ i → i < k → wordL i ≠ bytesL x) ∧ Below w.heap.size w wr ∧ Hid (Blk3 52 w.heap.size wr)) (fun v4 _ => 10 - (intOf v4).toNat)
  case atStart =>
    exact ⟨0, by omega, rfl, Lib.hid (fun i h0 h1 => by omega), by (repeat (first | exact Below.refl _ _ | assumption | refine ext_alloc ?_ _ | refine below_drewN ?_ _ | refine ext_drew ?_ | (refine below_tr ?_ (by assumption)))), Lib.hid ⟨_, _, _, heap_alloc_new w _⟩⟩
  case round =>
   obtain ⟨k, hk, rfl, hno, hb, hbk⟩ := hrel
   by_cases hlt : k ≤ 9
   · have f0 : wr.cell? ⟨b, o, none⟩ = some (.string x) := ((bcell hb).1 _ _ hb0).trans hcell
     have HW := Lib.hid (word_impl (k : Int) wr)
     have hsz := hb.size
     obtain ⟨y0, y1, y2, hblk⟩ := hbk.out
     have hlt0 : w.heap.size < wr.heap.size := (Array.getElem?_eq_some_iff.1 hblk).1
     have d0 : wr.cell? ⟨w.heap.size, 0, none⟩ = some y0 := by rw [Lib.cell_of_heap hblk]; rfl
     have u0 : wr.frozen? ⟨w.heap.size, 0, none⟩ = false := by simp [World.frozen?, hblk]
     have d1 : wr.cell? ⟨w.heap.size, 1, none⟩ = some y1 := by rw [Lib.cell_of_heap hblk]; rfl
     have u1 : wr.frozen? ⟨w.heap.size, 1, none⟩ = false := by simp [World.frozen?, hblk]
     have d2 : wr.cell? ⟨w.heap.size, 2, none⟩ = some y2 := by rw [Lib.cell_of_heap hblk]; rfl
     have u2 : wr.frozen? ⟨w.heap.size, 2, none⟩ = false := by simp [World.frozen?, hblk]
     have HBK := Lib.hid hblk
     clear hblk hbk hcell
     by_cases he : wordL (k : Int) = bytesL x
     · have hB : (wordL (k : Int) == x.toList) = true := by rw [ByteArray.toList_eq, beq_iff_eq]; exact he
       have HE := Lib.hid he
       clear he
       have hn := (HN k (by omega) (by omega)).out
       have hwk : Ac.wf ⟨(k : Int), 0, 0⟩ := ⟨wf_small (by show _ ≤ (k : Int); omega) (by show (k : Int) ≤ _; omega), wf_zero, wf_zero⟩
       obtain ⟨fs, hu⟩ := act_struct
       by_cases hn0 : needs (k : Int) = 0
       · by_cases hx : xs.length = 0
         · have hx1 : ((xs.length : Int) + 1 == 1) = true := by rw [beq_iff_eq]; omega
           have HY := Lib.hid (act_yes hws.out hlt HE.out hn0 (List.length_eq_zero_iff.1 hx))
           clear hx hn
           go_wp2_with (go_at_call 47; (with_reducible refine HW.out.mono ?_); rintro r w1 ⟨rfl, rfl⟩)
           refine bodyPost_ret (results_cell_tmp_row rfl _ _ w.heap.size _ _ (0, 0) (.struct fs) rfl (heap_alloc_keep _ (st3_heap _ _ _ HBK.out)) hu rfl act_info) rfl ?_
           exact act_post ⟨k, 0, 0⟩ true hwk (by refine ext_alloc ?_ _; repeat (first | exact hb | refine ext_setCell ?_ (Nat.le_refl _) _)) (.inl ⟨rfl, HY.out⟩)
         · have hx1 : ((xs.length : Int) + 1 == 1) = false := by rw [beq_eq_false_iff_ne]; omega
           have HY := Lib.hid (act_no0 hws.out hlt HE.out hn0 hx)
           clear hx hn
           go_wp2_with (go_at_call 47; (with_reducible refine HW.out.mono ?_); rintro r w1 ⟨rfl, rfl⟩)
           refine bodyPost_ret (results_cell_tmp_row rfl _ _ w.heap.size _ _ (0, 0) (.struct fs) rfl (heap_alloc_keep _ (st3_heap _ _ _ HBK.out)) hu rfl act_info) rfl ?_
           exact act_post ⟨k, 0, 0⟩ false hwk (by refine ext_alloc ?_ _; repeat (first | exact hb | refine ext_setCell ?_ (Nat.le_refl _) _)) (.inr ⟨rfl, HY.out⟩)
       · have hnb : (needs (k : Int) == 0) = false := by rw [beq_eq_false_iff_ne]; exact hn0
         by_cases hx : xs.length = 1
         · obtain ⟨y, rfl⟩ := List.length_eq_one_iff.1 hx
           obtain ⟨b', o', y', hA, hz, ⟨hy, hyw⟩, hcy⟩ := hst.one 0 (by simp)
           injection hA with hA
           injection hA with q1 q2
           subst q1 q2
           injection hy with hy
           subst hy
           simp only [List.getElem_cons_zero, Nat.add_zero] at hcy hyw
           have f1 : wr.cell? ⟨b, o + 1, none⟩ = some (.string y) := ((bcell hb).1 _ _ hz).trans hcy
           have hbr : b < wr.heap.size := by omega
           have hbn : b ≠ wr.heap.size := by omega
           have HQ := fun W (hW : Below w.heap.size w W) => Lib.hid (number_calls y 1000000 (by have := hl y (by simp); omega) W (h.mono hW))
           have hn12 : needs (k : Int) = 1 ∨ needs (k : Int) = 2 := by omega
           have HZ := fun (n : Int) (b : Bool) hw hh => Lib.hid (act_num hws.out hlt HE.out hn12 (n := n) (b := b) hw hh)
           have HN12 := Lib.hid hn12
           clear hn hx hcy hst hn12 hn0
           go_wp2_with (first | (go_at_call 47; (with_reducible refine HW.out.mono ?_); rintro r w1 ⟨rfl, rfl⟩) | (go_at_call 17; (with_reducible refine (HQ _ (by (repeat (first | exact Below.refl _ _ | assumption | refine ext_alloc ?_ _ | refine below_drewN ?_ _ | refine ext_drew ?_ | (refine below_tr ?_ (by assumption)))))).out.mono ?_)))
           rintro r w2 ⟨n, bo, rfl, hnw, hb2, hpost⟩
           have HF := Lib.hid ((HZ n bo hnw hpost).out)
           have hblk2 := (hb2.block w.heap.size (by simp; omega)).trans (heap_alloc_keep _ HBK.out)
           have hsz2 := hb2.size
           simp at hsz2
           have hb3 : Below w.heap.size w w2 := by (repeat (first | exact Below.refl _ _ | assumption | refine ext_alloc ?_ _ | refine below_drewN ?_ _ | refine ext_drew ?_ | (refine below_tr ?_ (by assumption))))
           have e0 : w2.cell? ⟨w.heap.size, 0, none⟩ = some y0 := by rw [Lib.cell_of_heap hblk2]; rfl
           have v0 : w2.frozen? ⟨w.heap.size, 0, none⟩ = false := by simp [World.frozen?, hblk2]
           have e1 : w2.cell? ⟨w.heap.size, 1, none⟩ = some y1 := by rw [Lib.cell_of_heap hblk2]; rfl
           have v1 : w2.frozen? ⟨w.heap.size, 1, none⟩ = false := by simp [World.frozen?, hblk2]
           have e2 : w2.cell? ⟨w.heap.size, 2, none⟩ = some y2 := by rw [Lib.cell_of_heap hblk2]; rfl
           have v2 : w2.frozen? ⟨w.heap.size, 2, none⟩ = false := by simp [World.frozen?, hblk2]
           have hblk3 : w2.heap[wr.heap.size]? = some (.cells #[.int .i64 k, .int .i64 0, .int .i64 0] 52 (0, 0)) := (hb2.block wr.heap.size (by simp)).trans (heap_alloc_new wr _)
           have g0 : w2.cell? ⟨wr.heap.size, 0, none⟩ = some (.int .i64 k) := by rw [Lib.cell_of_heap hblk3]; rfl
           have x0 : w2.frozen? ⟨wr.heap.size, 0, none⟩ = false := by simp [World.frozen?, hblk3]
           have g1 : w2.cell? ⟨wr.heap.size, 1, none⟩ = some (.int .i64 0) := by rw [Lib.cell_of_heap hblk3]; rfl
           have x1 : w2.frozen? ⟨wr.heap.size, 1, none⟩ = false := by simp [World.frozen?, hblk3]
           have g2 : w2.cell? ⟨wr.heap.size, 2, none⟩ = some (.int .i64 0) := by rw [Lib.cell_of_heap hblk3]; rfl
           have x2 : w2.frozen? ⟨wr.heap.size, 2, none⟩ = false := by simp [World.frozen?, hblk3]
           have hne : wr.heap.size ≠ w.heap.size := by omega
           have HB2 := Lib.hid hblk2
           clear hblk2 hblk3 hpost HZ HQ d0 d1 d2 u0 u1 u2 f0 f1
           rcases HN12.out with hn | hn
           · have hnb1 : (needs (k : Int) == 1) = true := by rw [hn]; rfl
             have HFf := Lib.hid (HF.out.1 hn)
             clear hn HF
             go_wp2_with fail
             refine bodyPost_ret (results_cell_tmp_row rfl _ _ w.heap.size _ _ (0, 0) (.struct fs) rfl (st3_heap _ _ _ (heap_setCell_keep hne HB2.out)) hu rfl act_info) rfl ?_
             exact act_post ⟨k, 0, n⟩ bo ⟨hwk.1, wf_zero, hnw⟩ (by repeat (first | exact hb3 | refine ext_setCell ?_ (by first | exact Nat.le_refl _ | exact hsz) _)) HFf.out
           · have hnb1 : (needs (k : Int) == 1) = false := by rw [hn]; rfl
             have HFf := Lib.hid (HF.out.2 hn)
             clear hn HF
             go_wp2_with fail
             refine bodyPost_ret (results_cell_tmp_row rfl _ _ w.heap.size _ _ (0, 0) (.struct fs) rfl (st3_heap _ _ _ (heap_setCell_keep hne HB2.out)) hu rfl act_info) rfl ?_
             exact act_post ⟨k, n, 0⟩ bo ⟨hwk.1, hnw, wf_zero⟩ (by repeat (first | exact hb3 | refine ext_setCell ?_ (by first | exact Nat.le_refl _ | exact hsz) _)) HFf.out
         · have hx1 : ((xs.length : Int) + 1 != 2) = true := by rw [bne_iff_ne]; omega
           have HY := Lib.hid (act_no1 hws.out hlt HE.out hn0 hx)
           clear hx hn hn0
           go_wp2_with (go_at_call 47; (with_reducible refine HW.out.mono ?_); rintro r w1 ⟨rfl, rfl⟩)
           refine bodyPost_ret (results_cell_tmp_row rfl _ _ w.heap.size _ _ (0, 0) (.struct fs) rfl (heap_alloc_keep _ (st3_heap _ _ _ HBK.out)) hu rfl act_info) rfl ?_
           exact act_post ⟨k, 0, 0⟩ false hwk (by refine ext_alloc ?_ _; repeat (first | exact hb | refine ext_setCell ?_ (Nat.le_refl _) _)) (.inr ⟨rfl, HY.out⟩)
     · have hB : (wordL (k : Int) == x.toList) = false := by rw [ByteArray.toList_eq, beq_eq_false_iff_ne]; exact he
       have HO := Lib.hid (show ∀ i : Int, 0 ≤ i → i < (k : Int) + 1 → wordL i ≠ bytesL x from fun i h0 h1 => by
         by_cases e : i = k
         · subst e; exact he
         · exact hno.out i h0 (by omega))
       clear he hno
       go_wp2_with (go_at_call 47; (with_reducible refine HW.out.mono ?_); rintro r w1 ⟨rfl, rfl⟩)
       go_roundw
       case rel => exact ⟨k + 1, by omega, by go_num, HO, hb, Lib.hid ⟨y0, y1, y2, HBK.out⟩⟩
       case measure => simp [intOf]; omega
   · have HO := Lib.hid (act_none hws.out (fun i h0 h9 => hno.out i h0 (by omega)))
     obtain ⟨y0, y1, y2, hblk⟩ := hbk.out
     have d0 : wr.cell? ⟨w.heap.size, 0, none⟩ = some y0 := by rw [Lib.cell_of_heap hblk]; rfl
     have u0 : wr.frozen? ⟨w.heap.size, 0, none⟩ = false := by simp [World.frozen?, hblk]
     have d1 : wr.cell? ⟨w.heap.size, 1, none⟩ = some y1 := by rw [Lib.cell_of_heap hblk]; rfl
     have u1 : wr.frozen? ⟨w.heap.size, 1, none⟩ = false := by simp [World.frozen?, hblk]
     have d2 : wr.cell? ⟨w.heap.size, 2, none⟩ = some y2 := by rw [Lib.cell_of_heap hblk]; rfl
     have u2 : wr.frozen? ⟨w.heap.size, 2, none⟩ = false := by simp [World.frozen?, hblk]
     have HBK := Lib.hid hblk
     obtain ⟨fs, hu⟩ := act_struct
     clear hblk hbk hcell hno
     go_wp2_with fail
     refine bodyPost_ret (results_cell_tmp_row rfl _ _ w.heap.size _ _ (0, 0) (.struct fs) rfl (st3_heap _ _ _ HBK.out) hu rfl act_info) rfl ?_
     exact act_post ⟨0, 0, 0⟩ false ⟨wf_small (by decide) (by decide), wf_small (by decide) (by decide), wf_small (by decide) (by decide)⟩ (by repeat (first | exact hb | refine ext_setCell ?_ (Nat.le_refl _) _)) (.inr ⟨rfl, HO.out⟩)
end Go.Proofs.YtljbclkbmjjmdaaGreatDoor
