/- The walk of the reference's source. -/
import Derived.Test.YtljbclkbmjjmdaaGreatDoorMR3
import Derived.Test.YtljbclkbmjjmdaaGreatDoorP3
import Derived.Test.YtljbclkbmjjmdaaGreatDoorU1
import Derived.Test.YtljbclkbmjjmdaaGreatDoorP4
import Derived.Deep.QuietTactic
import Derived.BigQuiet
namespace Go.Proofs.YtljbclkbmjjmdaaGreatDoor
open Go.RowKit Go.Shelf
theorem row_valR8 {W : World} {B k n : Nat} {T : TypeId} {v : Value} {xs : List Value} (h : W.ownsRow B T k v n xs) : ∃ A c, v = .slice A n c := by
  rcases h.2 with ⟨rfl, h0⟩ | ⟨g, cap, cur, rfl, _⟩
  · exact ⟨none, 0, by rw [h0]⟩
  · exact ⟨_, _, rfl⟩
def Src24 (xs : List (List UInt8)) (w : World) (e : Ending) (w' : World) : Prop :=
  ∃ v b es, e = .returned (.tuple #[v, .bool b]) ∧ Below w.heap.size w w' ∧ w'.ownsRow w.heap.size 82 3 v es.length (es.flatMap Ev.cells) ∧ (∀ e ∈ es, e.wf) ∧ ((b = true ∧ SrcIs xs es) ∨ (b = false ∧ ∀ es, ¬ SrcIs xs es))
theorem src24_no {xs : List (List UInt8)} {w w' : World} (hb : Below w.heap.size w w') (h : ∀ es, ¬ SrcIs xs es) : Src24 xs w (.returned (.tuple #[.slice none 0 0, .bool false])) w' :=
  ⟨_, false, [], rfl, hb, ⟨rfl, .inl ⟨rfl, rfl⟩⟩, fun e he => by simp at he, .inr ⟨rfl, h⟩⟩
theorem src24_end {xs : List (List UInt8)} {w w' : World} {v : Value} {es : List Ev} {b : Bool} (hb : Below w.heap.size w w') (hr : w'.ownsRow w.heap.size 82 3 v es.length (es.flatMap Ev.cells)) (ha : All2 EvL xs es) (hB : b = decide (es.length ≤ 200)) : Src24 xs w (.returned (.tuple #[v, .bool b])) w' := by
  refine ⟨v, b, es, rfl, hb, hr, fun e he => ((all2_ev' ha) e he).1, ?_⟩
  have hl := ha.len
  by_cases h : es.length ≤ 200
  · exact .inl ⟨by rw [hB]; simp [h], by omega, ha⟩
  · exact .inr ⟨by rw [hB]; simp [h], fun es' h' => h (by have := h'.1; omega)⟩
set_option maxHeartbeats 2000000 in
set_option maxRecDepth 100000 in
theorem source24 (xs : List ByteArray) (v : Value) (w : World) (hs : Sl 1 rStr w v xs) (hn : xs.length < 4294967281) : Calls Tryz.prog 23 #[v] w (Src24 (xs.map bytesL) w) := by
  obtain ⟨A, c, rfl, hst, hc, hm⟩ := hs
  obtain ⟨i0, hi, hz0, hz1, hz2⟩ := info_parts ev_info2
  obtain ⟨ls, hls⟩ : ∃ ls, ls = xs.map bytesL := ⟨_, rfl⟩
  rw [← hls]
  have HLS := Lib.hid hls
  clear hls
  go_enter Tryz.func23, Tryz.ntmps23
  go_wp2_with fail
  go_loopw [4, 12] (fun v4 v12 wr => ∃ (k : Nat) (es : List Ev), k ≤ xs.length ∧ v12 = .int .i64 k ∧ Hid (All2 EvL ((xs.take k).map bytesL) es) ∧ wr.ownsRow w.heap.size 82 3 v4 es.length (es.flatMap Ev.cells) ∧ Below w.heap.size w wr) (fun _ v12 _ => xs.length - (intOf v12).toNat)
  case atStart => exact ⟨0, [], Nat.zero_le _, rfl, Lib.hid trivial, ⟨rfl, .inr ⟨_, 0, #[], rfl, Nat.le_refl _, heap_alloc_new w _, Nat.le_refl _, by unfold maxLen; omega, rfl, rfl⟩⟩, (Below.refl _ _).alloc (Nat.le_refl _) _⟩
  case round =>
   obtain ⟨k, es, hk, rfl, hall, hrow, hb⟩ := hrel
   have hlen : es.length = k := by have := hall.out.len; rw [List.length_map, List.length_take, Nat.min_eq_left hk] at this; exact this.symm
   by_cases hlt : k < xs.length
   · obtain ⟨b, o, y, hA, hz, ⟨hy, hyw⟩, hcy⟩ := hst.one k hlt
     injection hy with hy
     subst hy
     subst hA
     have f0 : wr.cell? ⟨b, o + k, none⟩ = some (.string xs[k]) := ((bcell hb).1 _ _ hz).trans hcy
     have HE := Lib.hid (event24 xs[k] hyw wr)
     have HL := Lib.hid hlen
     have hlen1 : es.length < 4294967281 := by omega
     have htk := take_map_snoc bytesL xs k hlt
     have HT := Lib.hid htk
     obtain ⟨X, hX⟩ : ∃ X, X = xs[k] := ⟨_, rfl⟩
     rw [← hX] at f0 HE HT hyw hcy
     have HX := Lib.hid hX
     clear hlen htk hst hcy hyw hX
     go_wp2_with (go_at_call 49; (with_reducible refine HE.out.mono ?_))
     rintro r w1 ⟨e, bo, rfl, hwf, hb1, hpost⟩
     have HP := Lib.hid hpost
     clear hpost
     cases bo
     · have HNO := Lib.hid (show ∀ es', ¬ SrcIs ls es' from fun es' h' => by
         have hno : ∀ y, ¬ IsEv X y := by
           rcases HP.out with ⟨h', _⟩ | ⟨_, h'⟩
           · cases h'
           · exact h'
         rw [HLS.out] at h'
         obtain ⟨ev, _, hev⟩ := h'.2.at_ k (bytesL X) (by rw [List.getElem?_map, List.getElem?_eq_getElem hlt, ← HX.out]; rfl)
         exact hno ev (by rw [mk_of X]; exact hev))
       clear HP
       go_wp2_with fail
       go_ret2
       exact src24_no (by (repeat (first | exact Below.refl _ _ | assumption | refine ext_alloc ?_ _ | refine below_drewN ?_ _ | refine ext_drew ?_ | (refine below_tr ?_ (by assumption))))) HNO.out
     · have hyes : EvL (bytesL X) e := by
         rcases HP.out with ⟨_, h'⟩ | ⟨h', _⟩
         · show IsEv _ _
           rw [mk_of X] at h'; exact h'
         · cases h'
       have HY := Lib.hid hyes
       clear hyes HP
       have hsz1 := hb.size
       have hsz2 := hb1.size
       go_wp2_with (at_builtin; refine wpList_append_own _ rfl _ _ 48 rfl w.heap.size 82 i0 (.agg #[.string (ByteArray.mk #[]), .int .i64 0, .int .i64 0]) 3 32 Tryz.underlying48 hi hz0 hz1 hz2 rfl (by decide) _ _ _ rfl (row_belowK hrow (ext_alloc (ext_alloc hb1 _) _)) ⟨w1.heap.size + 1, 0, none⟩ 1 1 e.cells rfl rfl ?c1 ?c2 ?c3 ?c4 ?c5 ?_)
       case c1 =>
         intro j u hj
         match j, hj with
         | 0, hj => simp [Ev.cells] at hj; subst hj; simp [Addr.add, World.cell?_alloc_at]
         | 1, hj => simp [Ev.cells] at hj; subst hj; simp [Addr.add, World.cell?_alloc_at]
         | 2, hj => simp [Ev.cells] at hj; subst hj; simp [Addr.add, World.cell?_alloc_at]
       case c2 =>
         intro u hu
         simp [Ev.cells] at hu
         rcases hu with rfl | rfl | rfl <;> rfl
       case c3 => unfold maxLen; omega
       case c4 => omega
       case c5 => simp; omega
       intro v' w2 hown' hgrow _
       have hb2 := ext_alloc (ext_alloc hb1 (.cells #[.string e.key, .int .i64 e.at_, .int .i64 e.val] 82)) (.cells #[.string e.key, .int .i64 e.at_, .int .i64 e.val] 82)
       have hr2 := row_belowK hrow hb2
       have hbz := (below_tr hb hb2).trans (below_of_grownK hr2 (by simp; omega) hgrow)
       clear hr2 hgrow hrow
       go_wp2_with fail
       go_roundw
       case rel => exact ⟨k + 1, es ++ [e], by omega, by go_num, Lib.hid (by rw [HT.out]; exact hall.out.snoc HY.out), by simpa using hown', hbz⟩
       case measure => simp [intOf]; omega
   · have hke : k = xs.length := by omega
     have hall' := hall.out
     rw [List.take_of_length_le (by omega), ← HLS.out] at hall'
     have HA := Lib.hid hall'
     clear hall' hall
     obtain ⟨A', c', rfl⟩ := row_valR8 hrow
     have HROW := Lib.hid hrow
     clear hrow
     go_wp2_with fail
     go_ret2
     refine src24_end hb HROW.out HA.out ?_
     simp
     omega
end Go.Proofs.YtljbclkbmjjmdaaGreatDoor
/- The walk of the reference's parseAct. -/
namespace Go.Proofs.YtljbclkbmjjmdaaGreatDoor
open Go.RowKit Go.Shelf
theorem act_num24 {ws : List (List UInt8)} {y x : ByteArray} (hws : ws = bytesL x :: [y].map bytesL) {k : Nat} (hk : k ≤ 9) (he : wordL (k : Int) = bytesL x) (hn : needs (k : Int) = 1 ∨ needs (k : Int) = 2) {n : Int} {b : Bool} (hw : Wf .i64 n)
    (h : (b = true ∧ NumL (bytesL y) n) ∨ (b = false ∧ ∀ v, ¬ NumL (bytesL y) v)) (B : Bool) (hB : B = (b && decide (n ≤ 1000000))) :
    (needs (k : Int) = 1 → (B = true ∧ ActIs ws ⟨k, 0, n⟩) ∨ (B = false ∧ ∀ c, ¬ ActIs ws c)) ∧ (needs (k : Int) = 2 → (B = true ∧ ActIs ws ⟨k, n, 0⟩) ∨ (B = false ∧ ∀ c, ¬ ActIs ws c)) := by
  refine act_num (n := n) (b := B) hws hk he hn hw ?_
  rcases h with ⟨rfl, h⟩ | ⟨rfl, h⟩
  · by_cases h1 : n ≤ 1000000
    · exact .inl ⟨by rw [hB]; simp [h1], ⟨h.1, h.2.1⟩, h.2.2, h1⟩
    · exact .inr ⟨by rw [hB]; simp [h1], fun v hv hr => by
        have : n = v := h.eq ⟨hv.1, hv.2, hr.1⟩
        omega⟩
  · exact .inr ⟨by rw [hB]; rfl, fun v hv hr => h v ⟨hv.1, hv.2, hr.1⟩⟩
set_option maxHeartbeats 8000000 in
set_option maxRecDepth 100000 in
theorem act24 (ws : List (List UInt8)) (x : ByteArray) (xs : List ByteArray) (v : Value) (w : World) (hs : Sl 1 rStr w v (x :: xs)) (hws : Hid (ws = bytesL x :: xs.map bytesL)) :
    Calls Tryz.prog 24 #[v] w (ActPost ws w) := by
  obtain ⟨A, c, rfl, hs, hc, hm⟩ := hs
  obtain ⟨b, o, rfl, hb0, hst, u, ⟨hu, hxw⟩, hcell⟩ := sl_tail hs
  injection hu with hu
  subst hu
  clear hs
  simp only [List.length_cons] at hc ⊢
  have HN := fun n (h0 : 0 ≤ n) (h9 : n ≤ 9) => Lib.hid (act_needs n h0 h9)
  go_enter Tryz.func24, Tryz.ntmps24
  go_wp2_with fail
  go_loopw [4] (fun v4 wr => ∃ k : Nat, k ≤ 10 ∧ v4 = .int .i64 k ∧ Hid (∀ i : Int, 0 ≤ i → i < k → wordL i ≠ bytesL x) ∧ Below w.heap.size w wr ∧ Hid (Blk3 52 w.heap.size wr)) (fun v4 _ => 10 - (intOf v4).toNat)
  case atStart =>
    exact ⟨0, by omega, rfl, Lib.hid (fun i h0 h1 => by omega), by (repeat (first | exact Below.refl _ _ | assumption | refine ext_alloc ?_ _ | refine below_drewN ?_ _ | refine ext_drew ?_ | (refine below_tr ?_ (by assumption)))), Lib.hid ⟨_, _, _, heap_alloc_new w _⟩⟩
  case round =>
   obtain ⟨k, hk, rfl, hno, hb, hbk⟩ := hrel
   by_cases hlt : k ≤ 9
   · have f0 : wr.cell? ⟨b, o, none⟩ = some (.string x) := ((bcell hb).1 _ _ hb0).trans hcell
     have HWQ := fun m => Lib.hid ((word_ref (k : Int) (wr.drewN m)).mono (R' := fun e w'' => e = .returned (.string ⟨(wordL (k : Int)).toArray⟩) ∧ ∃ q, w'' = wr.drewN q) fun _ _ ⟨he, hq⟩ => ⟨he, m, hq.symm⟩)
     have HWH := fun W => Lib.hid (which_ref (k : Int) W)
     have HWO := fun W => Lib.hid (who_ref (k : Int) W)
     have HBK0 := Lib.hid hbk.out
     clear hbk hcell
     by_cases he : wordL (k : Int) = bytesL x
     · have hB : (wordL (k : Int) == x.toList) = true := by rw [ByteArray.toList_eq, beq_iff_eq]; exact he
       have HE := Lib.hid he
       clear he
       have hn := (HN k (by omega) (by omega)).out
       have hwk : Ac.wf ⟨(k : Int), 0, 0⟩ := ⟨wf_small (by show _ ≤ (k : Int); omega) (by show (k : Int) ≤ _; omega), wf_zero, wf_zero⟩
       obtain ⟨fs, hu⟩ := act_struct
       go_wp2_with fail
       go_quiet ((go_at_call 50; exact (HWQ _).out))
       obtain ⟨W, hWe⟩ : ∃ W, W = wr.drewN nq := ⟨_, rfl⟩
       have hbW : Below wr.heap.size wr W := by rw [hWe]; exact below_drewN (Below.refl _ _) _
       rw [← hWe]
       clear hWe HWQ
       have hbk1 : Blk3 52 w.heap.size W := by
         obtain ⟨y0, y1, y2, hblk⟩ := HBK0.out
         exact ⟨y0, y1, y2, (hbW.block _ (Array.getElem?_eq_some_iff.1 hblk).1).trans hblk⟩
       have hb' : Below w.heap.size w W := below_tr hb hbW
       have f0' : W.cell? ⟨b, o, none⟩ = some (.string x) := ((bcell hbW).1 _ _ (by have := hb.size; omega)).trans f0
       clear hb f0 hbW HBK0
       have hb := hb'
       have hsz := hb.size
       obtain ⟨y0, y1, y2, hblk⟩ := hbk1
       have hlt0 : w.heap.size < W.heap.size := (Array.getElem?_eq_some_iff.1 hblk).1
       have d0 : W.cell? ⟨w.heap.size, 0, none⟩ = some y0 := by rw [Lib.cell_of_heap hblk]; rfl
       have u0 : W.frozen? ⟨w.heap.size, 0, none⟩ = false := by simp [World.frozen?, hblk]
       have d1 : W.cell? ⟨w.heap.size, 1, none⟩ = some y1 := by rw [Lib.cell_of_heap hblk]; rfl
       have u1 : W.frozen? ⟨w.heap.size, 1, none⟩ = false := by simp [World.frozen?, hblk]
       have d2 : W.cell? ⟨w.heap.size, 2, none⟩ = some y2 := by rw [Lib.cell_of_heap hblk]; rfl
       have u2 : W.frozen? ⟨w.heap.size, 2, none⟩ = false := by simp [World.frozen?, hblk]
       have HBK := Lib.hid hblk
       clear hblk
       by_cases hn0 : needs (k : Int) = 0
       · have hw1 : decide (needs (k : Int) = 1) = false := by rw [hn0]; rfl
         have hw2 : decide (needs (k : Int) = 2) = false := by rw [hn0]; rfl
         rw [hw1] at HWH
         rw [hw2] at HWO
         by_cases hx : xs.length = 0
         · have hx1 : ((xs.length : Int) + 1 == 1) = true := by rw [beq_iff_eq]; omega
           have HY := Lib.hid (act_yes hws.out hlt HE.out hn0 (List.length_eq_zero_iff.1 hx))
           clear hx hn hn0 hw1 hw2
           go_wp2_with (first | (go_at_call 51; (with_reducible refine (HWH _).out.mono ?_); rintro r w1 ⟨rfl, rfl⟩) | (go_at_call 52; (with_reducible refine (HWO _).out.mono ?_); rintro r w1 ⟨rfl, rfl⟩))
           refine bodyPost_ret (results_cell_tmp_row rfl _ _ w.heap.size _ _ (0, 0) (.struct fs) rfl (heap_alloc_keep _ (st3_heap _ _ _ HBK.out)) hu rfl act_info) rfl ?_
           exact act_post ⟨k, 0, 0⟩ true hwk (by repeat (first | exact hb | refine ext_alloc ?_ _ | refine ext_setCell ?_ (by first | exact Nat.le_refl _ | exact hsz) _)) (.inl ⟨rfl, HY.out⟩)
         · have hx1 : ((xs.length : Int) + 1 == 1) = false := by rw [beq_eq_false_iff_ne]; omega
           have HY := Lib.hid (act_no0 hws.out hlt HE.out hn0 hx)
           clear hx hn hn0 hw1 hw2
           go_wp2_with (first | (go_at_call 51; (with_reducible refine (HWH _).out.mono ?_); rintro r w1 ⟨rfl, rfl⟩) | (go_at_call 52; (with_reducible refine (HWO _).out.mono ?_); rintro r w1 ⟨rfl, rfl⟩))
           refine bodyPost_ret (results_cell_tmp_row rfl _ _ w.heap.size _ _ (0, 0) (.struct fs) rfl (heap_alloc_keep _ (st3_heap _ _ _ HBK.out)) hu rfl act_info) rfl ?_
           exact act_post ⟨k, 0, 0⟩ false hwk (by repeat (first | exact hb | refine ext_alloc ?_ _ | refine ext_setCell ?_ (by first | exact Nat.le_refl _ | exact hsz) _)) (.inr ⟨rfl, HY.out⟩)
       · have hn12 : needs (k : Int) = 1 ∨ needs (k : Int) = 2 := by omega
         obtain ⟨B1, hB1⟩ : ∃ B1, B1 = decide (needs (k : Int) = 1) := ⟨_, rfl⟩
         obtain ⟨B2, hB2⟩ : ∃ B2, B2 = decide (needs (k : Int) = 2) := ⟨_, rfl⟩
         rw [← hB1] at HWH
         rw [← hB2] at HWO
         have hcase : (needs (k : Int) = 1 ∧ B1 = true ∧ B2 = false) ∨ (needs (k : Int) = 2 ∧ B1 = false ∧ B2 = true) := by
           rcases hn12 with h | h
           · exact .inl ⟨h, by rw [hB1, h]; rfl, by rw [hB2, h]; rfl⟩
           · exact .inr ⟨h, by rw [hB1, h]; rfl, by rw [hB2, h]; rfl⟩
         have HN12 := Lib.hid hn12
         have HN0 := Lib.hid hn0
         clear hB1 hB2 hn12 hn hn0
         rcases hcase with ⟨hn, rfl, rfl⟩ | ⟨hn, rfl, rfl⟩
         · have HNE := Lib.hid hn
           clear hn
           by_cases hx : xs.length = 1
           · obtain ⟨y, rfl⟩ := List.length_eq_one_iff.1 hx
             obtain ⟨b', o', y', hA, hz, ⟨hy, hyw⟩, hcy⟩ := hst.one 0 (by simp)
             injection hA with hA
             injection hA with q1 q2
             subst q1 q2
             injection hy with hy
             subst hy
             simp only [List.getElem_cons_zero, Nat.add_zero] at hcy hyw
             have f1 : W.cell? ⟨b, o + 1, none⟩ = some (.string y) := ((bcell hb).1 _ _ hz).trans hcy
             have hbr : b < W.heap.size := by omega
             have hbn : b ≠ W.heap.size := by omega
             have HQ := fun V => Lib.hid (number24 y hyw V)
             have HZ := fun (n : Int) (b : Bool) hw hh B hB => Lib.hid (act_num24 hws.out hlt HE.out HN12.out (n := n) (b := b) hw hh B hB)
             clear hx hcy hst
             go_wp2_with (first | (go_at_call 51; (with_reducible refine (HWH _).out.mono ?_); rintro r w1 ⟨rfl, rfl⟩) | (go_at_call 52; (with_reducible refine (HWO _).out.mono ?_); rintro r w1 ⟨rfl, rfl⟩) | (go_at_call 53; (with_reducible refine (HQ _).out.mono ?_)))
             rintro r w2 ⟨n, bo, rfl, hnw, hn0, hb2, hpost⟩
             have HF := fun B hB => Lib.hid ((HZ n bo hnw hpost B hB).out)
             have hblk2 := (hb2.block w.heap.size (by simp; omega)).trans (heap_alloc_keep _ HBK.out)
             have hsz2 := hb2.size
             simp at hsz2
             have hb3 : Below w.heap.size w w2 := by (repeat (first | exact Below.refl _ _ | assumption | refine ext_alloc ?_ _ | refine below_drewN ?_ _ | refine ext_drew ?_ | (refine below_tr ?_ (by assumption))))
             have e0 : w2.cell? ⟨w.heap.size, 0, none⟩ = some y0 := by rw [Lib.cell_of_heap hblk2]; rfl
             have v0 : w2.frozen? ⟨w.heap.size, 0, none⟩ = false := by simp [World.frozen?, hblk2]
             have e1 : w2.cell? ⟨w.heap.size, 1, none⟩ = some y1 := by rw [Lib.cell_of_heap hblk2]; rfl
             have v1 : w2.frozen? ⟨w.heap.size, 1, none⟩ = false := by simp [World.frozen?, hblk2]
             have e2 : w2.cell? ⟨w.heap.size, 2, none⟩ = some y2 := by rw [Lib.cell_of_heap hblk2]; rfl
             have v2 : w2.frozen? ⟨w.heap.size, 2, none⟩ = false := by simp [World.frozen?, hblk2]
             have hblk3 : w2.heap[W.heap.size]? = some (.cells #[.int .i64 k, .int .i64 0, .int .i64 0] 52 (0, 0)) := (hb2.block W.heap.size (by simp)).trans (heap_alloc_new W _)
             have g0 : w2.cell? ⟨W.heap.size, 0, none⟩ = some (.int .i64 k) := by rw [Lib.cell_of_heap hblk3]; rfl
             have x0 : w2.frozen? ⟨W.heap.size, 0, none⟩ = false := by simp [World.frozen?, hblk3]
             have g1 : w2.cell? ⟨W.heap.size, 1, none⟩ = some (.int .i64 0) := by rw [Lib.cell_of_heap hblk3]; rfl
             have x1 : w2.frozen? ⟨W.heap.size, 1, none⟩ = false := by simp [World.frozen?, hblk3]
             have g2 : w2.cell? ⟨W.heap.size, 2, none⟩ = some (.int .i64 0) := by rw [Lib.cell_of_heap hblk3]; rfl
             have x2 : w2.frozen? ⟨W.heap.size, 2, none⟩ = false := by simp [World.frozen?, hblk3]
             have hne : W.heap.size ≠ w.heap.size := by omega
             have HB2 := Lib.hid hblk2
             clear hblk2 hblk3 hpost HZ HQ d0 d1 d2 u0 u1 u2 f0' f1
             cases bo
             · have HFf := Lib.hid ((HF false rfl).out.1 HNE.out)
               clear HF
               go_wp2_with fail
               refine bodyPost_ret (results_cell_tmp_row rfl _ _ w.heap.size _ _ (0, 0) (.struct fs) rfl (st3_heap _ _ _ HB2.out) hu rfl act_info) rfl ?_
               refine act_post ⟨k, 0, 0⟩ false hwk (by repeat (first | exact hb3 | refine ext_setCell ?_ (by first | exact Nat.le_refl _ | exact hsz) _)) (.inr ⟨rfl, ?_⟩)
               rcases HFf.out with ⟨h', _⟩ | ⟨_, h'⟩
               · cases h'
               · exact h'
             · by_cases hm6 : n ≤ 1000000
               · have HFf := Lib.hid ((HF true (by simp [hm6])).out.1 HNE.out)
                 clear HF
                 go_wp2_with (first | (go_at_call 51; (with_reducible refine (HWH _).out.mono ?_); rintro r w1 ⟨rfl, rfl⟩))
                 refine bodyPost_ret (results_cell_tmp_row rfl _ _ w.heap.size _ _ (0, 0) (.struct fs) rfl (st3_heap _ _ _ (heap_setCell_keep hne HB2.out)) hu rfl act_info) rfl ?_
                 refine act_post ⟨k, 0, n⟩ true ⟨hwk.1, wf_zero, hnw⟩ (by repeat (first | exact hb3 | refine ext_setCell ?_ (by first | exact Nat.le_refl _ | exact hsz) _)) (.inl ⟨rfl, ?_⟩)
                 rcases HFf.out with ⟨_, h'⟩ | ⟨h', _⟩
                 · exact h'
                 · cases h'
               · have HFf := Lib.hid ((HF false (by simp [hm6])).out.1 HNE.out)
                 clear HF
                 go_wp2_with fail
                 refine bodyPost_ret (results_cell_tmp_row rfl _ _ w.heap.size _ _ (0, 0) (.struct fs) rfl (st3_heap _ _ _ HB2.out) hu rfl act_info) rfl ?_
                 refine act_post ⟨k, 0, 0⟩ false hwk (by repeat (first | exact hb3 | refine ext_setCell ?_ (by first | exact Nat.le_refl _ | exact hsz) _)) (.inr ⟨rfl, ?_⟩)
                 rcases HFf.out with ⟨h', _⟩ | ⟨_, h'⟩
                 · cases h'
                 · exact h'
           · have hx1 : ((xs.length : Int) + 1 != 2) = true := by rw [bne_iff_ne]; omega
             have HY := Lib.hid (act_no1 hws.out hlt HE.out HN0.out hx)
             clear hx
             go_wp2_with (first | (go_at_call 51; (with_reducible refine (HWH _).out.mono ?_); rintro r w1 ⟨rfl, rfl⟩) | (go_at_call 52; (with_reducible refine (HWO _).out.mono ?_); rintro r w1 ⟨rfl, rfl⟩))
             refine bodyPost_ret (results_cell_tmp_row rfl _ _ w.heap.size _ _ (0, 0) (.struct fs) rfl (heap_alloc_keep _ (st3_heap _ _ _ HBK.out)) hu rfl act_info) rfl ?_
             exact act_post ⟨k, 0, 0⟩ false hwk (by repeat (first | exact hb | refine ext_alloc ?_ _ | refine ext_setCell ?_ (by first | exact Nat.le_refl _ | exact hsz) _)) (.inr ⟨rfl, HY.out⟩)
         · have HNE := Lib.hid hn
           clear hn
           by_cases hx : xs.length = 1
           · obtain ⟨y, rfl⟩ := List.length_eq_one_iff.1 hx
             obtain ⟨b', o', y', hA, hz, ⟨hy, hyw⟩, hcy⟩ := hst.one 0 (by simp)
             injection hA with hA
             injection hA with q1 q2
             subst q1 q2
             injection hy with hy
             subst hy
             simp only [List.getElem_cons_zero, Nat.add_zero] at hcy hyw
             have f1 : W.cell? ⟨b, o + 1, none⟩ = some (.string y) := ((bcell hb).1 _ _ hz).trans hcy
             have hbr : b < W.heap.size := by omega
             have hbn : b ≠ W.heap.size := by omega
             have HQ := fun V => Lib.hid (number24 y hyw V)
             have HZ := fun (n : Int) (b : Bool) hw hh B hB => Lib.hid (act_num24 hws.out hlt HE.out HN12.out (n := n) (b := b) hw hh B hB)
             clear hx hcy hst
             go_wp2_with (first | (go_at_call 51; (with_reducible refine (HWH _).out.mono ?_); rintro r w1 ⟨rfl, rfl⟩) | (go_at_call 52; (with_reducible refine (HWO _).out.mono ?_); rintro r w1 ⟨rfl, rfl⟩) | (go_at_call 53; (with_reducible refine (HQ _).out.mono ?_)))
             rintro r w2 ⟨n, bo, rfl, hnw, hn0, hb2, hpost⟩
             have HF := fun B hB => Lib.hid ((HZ n bo hnw hpost B hB).out)
             have hblk2 := (hb2.block w.heap.size (by simp; omega)).trans (heap_alloc_keep _ HBK.out)
             have hsz2 := hb2.size
             simp at hsz2
             have hb3 : Below w.heap.size w w2 := by (repeat (first | exact Below.refl _ _ | assumption | refine ext_alloc ?_ _ | refine below_drewN ?_ _ | refine ext_drew ?_ | (refine below_tr ?_ (by assumption))))
             have e0 : w2.cell? ⟨w.heap.size, 0, none⟩ = some y0 := by rw [Lib.cell_of_heap hblk2]; rfl
             have v0 : w2.frozen? ⟨w.heap.size, 0, none⟩ = false := by simp [World.frozen?, hblk2]
             have e1 : w2.cell? ⟨w.heap.size, 1, none⟩ = some y1 := by rw [Lib.cell_of_heap hblk2]; rfl
             have v1 : w2.frozen? ⟨w.heap.size, 1, none⟩ = false := by simp [World.frozen?, hblk2]
             have e2 : w2.cell? ⟨w.heap.size, 2, none⟩ = some y2 := by rw [Lib.cell_of_heap hblk2]; rfl
             have v2 : w2.frozen? ⟨w.heap.size, 2, none⟩ = false := by simp [World.frozen?, hblk2]
             have hblk3 : w2.heap[W.heap.size]? = some (.cells #[.int .i64 k, .int .i64 0, .int .i64 0] 52 (0, 0)) := (hb2.block W.heap.size (by simp)).trans (heap_alloc_new W _)
             have g0 : w2.cell? ⟨W.heap.size, 0, none⟩ = some (.int .i64 k) := by rw [Lib.cell_of_heap hblk3]; rfl
             have x0 : w2.frozen? ⟨W.heap.size, 0, none⟩ = false := by simp [World.frozen?, hblk3]
             have g1 : w2.cell? ⟨W.heap.size, 1, none⟩ = some (.int .i64 0) := by rw [Lib.cell_of_heap hblk3]; rfl
             have x1 : w2.frozen? ⟨W.heap.size, 1, none⟩ = false := by simp [World.frozen?, hblk3]
             have g2 : w2.cell? ⟨W.heap.size, 2, none⟩ = some (.int .i64 0) := by rw [Lib.cell_of_heap hblk3]; rfl
             have x2 : w2.frozen? ⟨W.heap.size, 2, none⟩ = false := by simp [World.frozen?, hblk3]
             have hne : W.heap.size ≠ w.heap.size := by omega
             have HB2 := Lib.hid hblk2
             clear hblk2 hblk3 hpost HZ HQ d0 d1 d2 u0 u1 u2 f0' f1
             cases bo
             · have HFf := Lib.hid ((HF false rfl).out.2 HNE.out)
               clear HF
               go_wp2_with fail
               refine bodyPost_ret (results_cell_tmp_row rfl _ _ w.heap.size _ _ (0, 0) (.struct fs) rfl (st3_heap _ _ _ HB2.out) hu rfl act_info) rfl ?_
               refine act_post ⟨k, 0, 0⟩ false hwk (by repeat (first | exact hb3 | refine ext_setCell ?_ (by first | exact Nat.le_refl _ | exact hsz) _)) (.inr ⟨rfl, ?_⟩)
               rcases HFf.out with ⟨h', _⟩ | ⟨_, h'⟩
               · cases h'
               · exact h'
             · by_cases hm6 : n ≤ 1000000
               · have HFf := Lib.hid ((HF true (by simp [hm6])).out.2 HNE.out)
                 clear HF
                 go_wp2_with (first | (go_at_call 51; (with_reducible refine (HWH _).out.mono ?_); rintro r w1 ⟨rfl, rfl⟩))
                 refine bodyPost_ret (results_cell_tmp_row rfl _ _ w.heap.size _ _ (0, 0) (.struct fs) rfl (st3_heap _ _ _ (heap_setCell_keep hne HB2.out)) hu rfl act_info) rfl ?_
                 refine act_post ⟨k, n, 0⟩ true ⟨hwk.1, hnw, wf_zero⟩ (by repeat (first | exact hb3 | refine ext_setCell ?_ (by first | exact Nat.le_refl _ | exact hsz) _)) (.inl ⟨rfl, ?_⟩)
                 rcases HFf.out with ⟨_, h'⟩ | ⟨h', _⟩
                 · exact h'
                 · cases h'
               · have HFf := Lib.hid ((HF false (by simp [hm6])).out.2 HNE.out)
                 clear HF
                 go_wp2_with fail
                 refine bodyPost_ret (results_cell_tmp_row rfl _ _ w.heap.size _ _ (0, 0) (.struct fs) rfl (st3_heap _ _ _ HB2.out) hu rfl act_info) rfl ?_
                 refine act_post ⟨k, 0, 0⟩ false hwk (by repeat (first | exact hb3 | refine ext_setCell ?_ (by first | exact Nat.le_refl _ | exact hsz) _)) (.inr ⟨rfl, ?_⟩)
                 rcases HFf.out with ⟨h', _⟩ | ⟨_, h'⟩
                 · cases h'
                 · exact h'
           · have hx1 : ((xs.length : Int) + 1 != 2) = true := by rw [bne_iff_ne]; omega
             have HY := Lib.hid (act_no1 hws.out hlt HE.out HN0.out hx)
             clear hx
             go_wp2_with (first | (go_at_call 51; (with_reducible refine (HWH _).out.mono ?_); rintro r w1 ⟨rfl, rfl⟩) | (go_at_call 52; (with_reducible refine (HWO _).out.mono ?_); rintro r w1 ⟨rfl, rfl⟩))
             refine bodyPost_ret (results_cell_tmp_row rfl _ _ w.heap.size _ _ (0, 0) (.struct fs) rfl (heap_alloc_keep _ (st3_heap _ _ _ HBK.out)) hu rfl act_info) rfl ?_
             exact act_post ⟨k, 0, 0⟩ false hwk (by repeat (first | exact hb | refine ext_alloc ?_ _ | refine ext_setCell ?_ (by first | exact Nat.le_refl _ | exact hsz) _)) (.inr ⟨rfl, HY.out⟩)
     · have hB : (wordL (k : Int) == x.toList) = false := by rw [ByteArray.toList_eq, beq_eq_false_iff_ne]; exact he
       have HO := Lib.hid (show ∀ i : Int, 0 ≤ i → i < (k : Int) + 1 → wordL i ≠ bytesL x from fun i h0 h1 => by
         by_cases e : i = k
         · subst e; exact he
         · exact hno.out i h0 (by omega))
       clear he hno
       go_wp2_with fail
       go_quiet ((go_at_call 50; exact (HWQ _).out))
       go_wp2_with fail
       go_roundw
       case rel => exact ⟨k + 1, by omega, by go_num, HO, below_drewN hb _, Lib.hid (by obtain ⟨y0, y1, y2, hblk⟩ := HBK0.out; exact ⟨y0, y1, y2, hblk⟩)⟩
       case measure => simp [intOf]; omega
   · have HO := Lib.hid (act_none hws.out (fun i h0 h9 => hno.out i h0 (by omega)))
     obtain ⟨y0, y1, y2, hblk⟩ := hbk.out
     have d0 : wr.cell? ⟨w.heap.size, 0, none⟩ = some y0 := by rw [Lib.cell_of_heap hblk]; rfl
     have u0 : wr.frozen? ⟨w.heap.size, 0, none⟩ = false := by simp [World.frozen?, hblk]
     have d1 : wr.cell? ⟨w.heap.size, 1, none⟩ = some y1 := by rw [Lib.cell_of_heap hblk]; rfl
     have u1 : wr.frozen? ⟨w.heap.size, 1, none⟩ = false := by simp [World.frozen?, hblk]
     have d2 : wr.cell? ⟨w.heap.size, 2, none⟩ = some y2 := by rw [Lib.cell_of_heap hblk]; rfl
     have u2 : wr.frozen? ⟨w.heap.size, 2, none⟩ = false := by simp [World.frozen?, hblk]
     have HBK := Lib.hid hblk
     obtain ⟨fs, hu⟩ := act_struct
     clear hblk hbk hcell hno
     go_wp2_with fail
     refine bodyPost_ret (results_cell_tmp_row rfl _ _ w.heap.size _ _ (0, 0) (.struct fs) rfl (st3_heap _ _ _ HBK.out) hu rfl act_info) rfl ?_
     exact act_post ⟨0, 0, 0⟩ false ⟨wf_small (by decide) (by decide), wf_small (by decide) (by decide), wf_small (by decide) (by decide)⟩ (by repeat (first | exact hb | refine ext_setCell ?_ (Nat.le_refl _) _)) (.inr ⟨rfl, HO.out⟩)
end Go.Proofs.YtljbclkbmjjmdaaGreatDoor
