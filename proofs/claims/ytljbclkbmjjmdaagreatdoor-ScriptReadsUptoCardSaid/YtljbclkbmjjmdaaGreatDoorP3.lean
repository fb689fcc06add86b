/- Walks of the parser: a line parted into words; a source that is read. -/
import Derived.Test.YtljbclkbmjjmdaaGreatDoorP2
import Derived.Test.YtljbclkbmjjmdaaGreatDoorK
import Derived.Laws.AppendOwn
namespace Go.Proofs.YtljbclkbmjjmdaaGreatDoor
open Go.RowKit Go.Shelf
/-- The words of a text. -/
def wordsB (l : List UInt8) : List ByteArray := (wordsL 32 l).map fun x => ByteArray.mk x.toArray
theorem wordsB_bytes (l : List UInt8) : (wordsB l).map bytesL = wordsL 32 l := by
  unfold wordsB
  rw [List.map_map]
  conv => rhs; rw [← List.map_id (wordsL 32 l)]
  exact List.map_congr_left fun x _ => by simp [bytesL]
theorem wordsB_len (l : List UInt8) : (wordsB l).length = (wordsL 32 l).length := by simp [wordsB]
theorem wordsB_pos (l : List UInt8) : 0 < (wordsB l).length := by
  rw [wordsB_len]; exact List.length_pos_iff.2 (wordsL_ne _ _)
theorem wordsB_size (l : List UInt8) : ∀ x ∈ wordsB l, x.size ≤ l.length := by
  intro x hx
  obtain ⟨y, hy, rfl⟩ := List.mem_map.1 hx
  rw [mk_size]
  exact words_size 32 l y hy
theorem sl_strs (W : World) (xs : List ByteArray) (T : TypeId) (hx : ∀ x ∈ xs, WfS x) (hl : xs.length ≤ 9223372036854775807) : Sl 1 rStr (W.alloc (.cells (xs.map Value.string).toArray T)) (.slice (some ⟨W.heap.size, 0, none⟩) xs.length xs.length) xs := by
  refine ⟨_, _, rfl, ?_, Nat.le_refl _, hl⟩
  intro i x hi
  refine ⟨W.heap.size, 0, [.string x], rfl, by simp, ⟨rfl, hx x (List.mem_of_getElem? hi)⟩, rfl, ?_⟩
  intro j u hu
  match j, hu with
  | 0, hu =>
    simp at hu
    subst hu
    rw [World.cell?_alloc_at _ _ _ _ rfl]
    simp [hi]
def SplitPost (l : List UInt8) (w : World) (e : Ending) (w' : World) : Prop :=
  e = .returned (.slice (some ⟨w.heap.size, 0, none⟩) (wordsB l).length (wordsB l).length) ∧ Below w.heap.size w w' ∧ w.heap.size < w'.heap.size ∧ Sl 1 rStr w' (.slice (some ⟨w.heap.size, 0, none⟩) (wordsB l).length (wordsB l).length) (wordsB l)
theorem split_calls (s : ByteArray) (hs : s.size < 4294967281) (w : World) (h : Env w) : Calls Tryz.prog 14 #[.string s, .string (ByteArray.mk #[32])] w (SplitPost s.data.toList w) := by
  obtain ⟨m, hm⟩ := h.len
  have hl : (wordsB s.data.toList).length = Lib.countB s (ByteArray.mk #[32]) + 1 := by rw [wordsB_len, count_words]
  have hb : Lib.countB s (ByteArray.mk #[32]) ≤ s.size := Lib.countB_le _ (by decide) s.size s (Nat.le_refl _)
  refine (Tryz.strings_Split s (ByteArray.mk #[32]) m w hs hm (by decide)).mono ?_
  rintro e w' ⟨rfl, rfl⟩
  rw [split_words]
  have hsz : s.data.toList.length = s.size := bytesL_length s
  have := sl_strs w (wordsB s.data.toList) 9 (fun x hx => by have := wordsB_size _ x hx; unfold WfS; omega) (by omega)
  refine ⟨by rw [hl], (Below.refl _ w).alloc (Nat.le_refl _) _, by simp, this⟩
/-- What is known of a slice that a call made: it lies in new memory. -/
def SlN {α : Type} (B : Nat) (k : Nat) (R : RepT α) (w : World) (v : Value) (xs : List α) : Prop := Sl k R w v xs ∧ ∀ g, v.ownBlock = some g → B ≤ g
theorem ev_cells {es : List Ev} : ∀ {i : Nat} {e : Ev}, es[i]? = some e → ∀ j u, (e.cells)[j]? = some u → (es.flatMap Ev.cells)[i * 3 + j]? = some u := by
  induction es with
  | nil => intro i e h; simp at h
  | cons x r ih =>
    intro i e h j u hu
    have hj : j < 3 := by have := (List.getElem?_eq_some_iff.1 hu).1; simpa [Ev.cells] using this
    rw [List.flatMap_cons]
    cases i with
    | zero =>
      simp at h
      subst h
      rw [Nat.zero_mul, Nat.zero_add, List.getElem?_append_left (by simp [Ev.cells]; omega)]
      exact hu
    | succ i =>
      simp at h
      rw [List.getElem?_append_right (by simp [Ev.cells]; omega), show (i + 1) * 3 + j - x.cells.length = i * 3 + j by simp [Ev.cells]; omega]
      exact ih h j u hu
theorem owns_sl {w : World} {B : Nat} {T : TypeId} {v : Value} {es : List Ev} (h : w.ownsRow B T 3 v es.length (es.flatMap Ev.cells)) (hw : ∀ e ∈ es, e.wf) : SlN B 3 rEv w v es := by
  obtain ⟨hlen, hn | ⟨g, cap, cur, hv, hg, hh, hc, hm, hcs, ht⟩⟩ := h
  · obtain ⟨rfl, h0⟩ := hn
    obtain rfl := List.length_eq_zero_iff.1 h0
    exact ⟨Sl.nil _ _ _, fun g h => by cases h⟩
  · subst hv
    refine ⟨⟨_, _, rfl, ?_, hc, hm⟩, fun g' h' => by have e : g = g' := Option.some.inj h'; omega⟩
    intro i e hi
    refine ⟨g, 0, e.cells, rfl, (Array.getElem?_eq_some_iff.1 hh).1, ⟨rfl, hw e (List.mem_of_getElem? hi)⟩, rfl, ?_⟩
    intro j u hu
    have h1 := ev_cells hi j u hu
    rw [← ht, List.getElem?_take] at h1
    split at h1
    · have h2 : cur[i * 3 + j]? = some u := by simpa using h1
      rw [Nat.zero_add, Lib.cell_of_heap hh]
      exact h2
    · cases h1
/-- What a slice is behind its first element. -/
theorem sl_tail {α : Type} {R : RepT α} {w : World} {A : Option Addr} {x : α} {xs : List α} (h : SlA 1 R w A (x :: xs)) : ∃ b o, A = some ⟨b, o, none⟩ ∧ b < w.heap.size ∧ SlA 1 R w (some ⟨b, o + 1, none⟩) xs ∧ (∃ u, R w x [u] ∧ w.cell? ⟨b, o, none⟩ = some u) := by
  obtain ⟨b, o, u, rfl, hb, hr, hc⟩ := h.one 0 (by simp)
  refine ⟨b, o, rfl, hb, ?_, ⟨u, hr, by simpa using hc⟩⟩
  intro i y hy
  obtain ⟨b', o', cs, hA, hlt, hr', hk, hc'⟩ := h (i + 1) y (by simpa using hy)
  injection hA with hA
  injection hA with h1 h2
  subst h1 h2
  refine ⟨b, o + 1, cs, rfl, hlt, hr', hk, fun j u hu => ?_⟩
  rw [show o + 1 + i * 1 + j = o + (i + 1) * 1 + j by omega]
  exact hc' j u hu
theorem all2_ev' : ∀ {xs : List (List UInt8)} {es : List Ev}, All2 EvL xs es → ∀ e ∈ es, e.wf ∧ lettersB e.key = true ∧ eventB e = true
  | [], [], _ => fun e he => by simp at he
  | x :: xs, e :: es, h => fun y hy => by
    rcases List.mem_cons.1 hy with rfl | hy
    · exact h.1.2
    · exact all2_ev' h.2 y hy
  | [], _ :: _, h => h.elim
  | _ :: _, [], h => h.elim
theorem row_belowK {w w' : World} {B0 n k : Nat} {e : TypeId} {v : Value} {xs : List Value} (h : w.ownsRow B0 e k v n xs) (hb : Below w.heap.size w w') : w'.ownsRow B0 e k v n xs := by
  refine ⟨h.1, ?_⟩
  rcases h.2 with hn | ⟨g, cap, cur, hv, hg, hh, r⟩
  · exact .inl hn
  · exact .inr ⟨g, cap, cur, hv, hg, (hb.block g (Array.getElem?_eq_some_iff.1 hh).1).trans hh, r⟩
theorem below_of_grownK {B k : Nat} {w w' : World} {v : Value} {n : Nat} {e : TypeId} {xs : List Value} (hr : w.ownsRow B e k v n xs) (hB : B ≤ w.heap.size) (hg : w.grownBy w' v.ownBlock) : Below B w w' := by
  refine ⟨hg.os, hg.tape, hg.output, hg.size, fun j hj => hg.block j (by omega) ?_⟩
  rcases hr.2 with ⟨rfl, _⟩ | ⟨g, cap, cur, rfl, hge, _⟩
  · intro h; cases h
  · intro h
    have e : j = g := Option.some.inj h
    omega
def SrcPost (ws : List (List UInt8)) (w : World) (e : Ending) (w' : World) : Prop :=
  ∃ v b es, e = .returned (.tuple #[v, .bool b]) ∧ Below w.heap.size w w' ∧ w'.ownsRow w.heap.size 82 3 v es.length (es.flatMap Ev.cells) ∧ (∀ e ∈ es, e.wf) ∧ ((b = true ∧ ∃ xs, ws = srcWord :: xs ∧ SrcIs xs es) ∨ (b = false ∧ ∀ xs es, ws = srcWord :: xs → ¬ SrcIs xs es))
theorem ev_info2 : (Tryz.prog.info? 82).map (fun i => (i.zero, i.size, i.bytes)) = some (some (.agg #[.string (ByteArray.mk #[]), .int .i64 0, .int .i64 0]), 3, 32) := by kernel_rfl
theorem take_map_snoc {α β : Type} (f : α → β) (xs : List α) (k : Nat) (h : k < xs.length) : (xs.take (k + 1)).map f = (xs.take k).map f ++ [f xs[k]] := by
  rw [List.take_succ_eq_append_getElem h, List.map_append]; rfl
theorem src_no {ws : List (List UInt8)} {x : ByteArray} {xs : List ByteArray} (hws : ws = (x :: xs).map bytesL) {w w' : World} (hb : Below w.heap.size w w') (h : ∀ es, ¬ SrcIs (xs.map bytesL) es) : SrcPost ws w (.returned (.tuple #[.slice none 0 0, .bool false])) w' := by
  refine ⟨_, false, [], rfl, hb, ⟨rfl, .inl ⟨rfl, rfl⟩⟩, fun e he => by simp at he, .inr ⟨rfl, fun ys es he h' => ?_⟩⟩
  rw [hws, List.map_cons] at he
  injection he with _ he
  exact h es (by rw [he]; exact h')
theorem src_yes {ws : List (List UInt8)} {x : ByteArray} {xs : List ByteArray} (hws : ws = (x :: xs).map bytesL) (hx : bytesL x = srcWord) {w w' : World} (hb : Below w.heap.size w w') {v : Value} {es : List Ev} (hr : w'.ownsRow w.heap.size 82 3 v es.length (es.flatMap Ev.cells)) (hl : xs.length ≤ 200) (ha : All2 EvL (xs.map bytesL) es) : SrcPost ws w (.returned (.tuple #[v, .bool true])) w' := by
  have hw : ∀ e ∈ es, e.wf := fun e he => ((all2_ev' ha) e he).1
  exact ⟨_, true, es, rfl, hb, hr, hw, .inl ⟨rfl, _, by rw [hws, List.map_cons, hx], by rw [List.length_map]; exact hl, ha⟩⟩
set_option maxHeartbeats 1000000 in
set_option maxRecDepth 100000 in
theorem source_read (ws : List (List UInt8)) (x : ByteArray) (xs : List ByteArray) (v : Value) (w : World) (hs : Sl 1 rStr w v (x :: xs)) (h : Env w) (hl : ∀ y ∈ xs, y.size < 4294967281) (hx : bytesL x = srcWord) (hws : Hid (ws = (x :: xs).map bytesL)) :
    Calls Tryz.prog 18 #[v] w (SrcPost ws w) := by
  obtain ⟨A, c, rfl, hs, hc, hm⟩ := hs
  obtain ⟨b, o, rfl, hb0, hst, u, ⟨hu, hxw⟩, hcell⟩ := sl_tail hs
  injection hu with hu
  subst hu
  obtain rfl : x = ByteArray.mk #[115, 111, 117, 114, 99, 101] := ba_ext hx
  clear hs hx
  simp only [List.length_cons] at hc ⊢
  obtain ⟨i0, hi, hz0, hz1, hz2⟩ := info_parts ev_info2
  by_cases hmany : 200 < xs.length
  · have hm1 : (201 : Int) < xs.length + 1 := by omega
    go_enter Tryz.func18, Tryz.ntmps18
    go_wp2_with fail
    go_ret2
    exact src_no hws.out (Below.refl _ _) fun es h' => by
      have := h'.1
      rw [List.length_map] at this
      omega
  · have hm1 : ¬ (201 : Int) < xs.length + 1 := by omega
    by_cases hc1 : c = 1
    · obtain rfl : xs = [] := List.length_eq_zero_iff.1 (by omega)
      subst hc1
      go_enter Tryz.func18, Tryz.ntmps18
      go_wp2_with fail
      go_loop [4, 22] (fun v4 v22 => v4 = .slice (some ⟨w.heap.size, 0, none⟩) 0 0 ∧ v22 = .int .i64 0) (fun _ _ => 0)
      case atStart => exact ⟨rfl, rfl⟩
      case round =>
       obtain ⟨rfl, rfl⟩ := hrel
       go_wp2_with fail
       go_ret2
       exact src_yes (v := .slice (some ⟨w.heap.size, 0, none⟩) 0 0) (es := []) hws.out rfl ((Below.refl _ _).alloc (Nat.le_refl _) _) ⟨rfl, .inr ⟨_, 0, #[], rfl, Nat.le_refl _, heap_alloc_new w _, Nat.le_refl _, by unfold maxLen; omega, rfl, rfl⟩⟩ (by simp) trivial
    · have hc2 : 1 < c := by omega
      have HM := Lib.hid hmany
      clear hmany
      go_enter Tryz.func18, Tryz.ntmps18
      go_wp2_with fail
      go_loopw [4, 22] (fun v4 v22 wr => ∃ (k : Nat) (es : List Ev), k ≤ xs.length ∧ v22 = .int .i64 k ∧ Hid (All2 EvL ((xs.take k).map bytesL) es) ∧ wr.ownsRow w.heap.size 82 3 v4 es.length (es.flatMap Ev.cells) ∧ Below w.heap.size w wr) (fun _ v22 _ => xs.length - (intOf v22).toNat)
      case atStart => exact ⟨0, [], Nat.zero_le _, rfl, Lib.hid trivial, ⟨rfl, .inr ⟨_, 0, #[], rfl, Nat.le_refl _, heap_alloc_new w _, Nat.le_refl _, by unfold maxLen; omega, rfl, rfl⟩⟩, (Below.refl _ _).alloc (Nat.le_refl _) _⟩
      case round =>
       obtain ⟨k, es, hk, rfl, hall, hrow, hb⟩ := hrel
       have hlen : es.length = k := by have := hall.out.len; rw [List.length_map, List.length_take, Nat.min_eq_left hk] at this; exact this.symm
       have hlen1 : es.length ≤ 200 := by omega
       by_cases hlt : k < xs.length
       · obtain ⟨bb, o', y, hA, hz, ⟨hy, hyw⟩, hcy⟩ := hst.one k hlt
         injection hA with hA
         injection hA with q1 q2
         subst q1 q2
         injection hy with hy
         subst hy
         have f0 : wr.cell? ⟨b, o + 1 + k, none⟩ = some (.string xs[k]) := ((bcell hb).1 _ _ hz).trans hcy
         have HE := Lib.hid (event_calls xs[k] (hl _ (List.getElem_mem _)) wr (h.mono hb))
         have HL := Lib.hid hlen
         have htk := take_map_snoc bytesL xs k hlt
         have HT := Lib.hid htk
         obtain ⟨X, hX⟩ : ∃ X, X = xs[k] := ⟨_, rfl⟩
         rw [← hX] at f0 HE HT hyw hcy
         have HX := Lib.hid hX
         clear hlen htk hst hcy hyw hX hcell hxw
         go_wp2_with (go_at_call 46; (with_reducible refine HE.out.mono ?_))
         rintro r w1 ⟨e, bo, rfl, hwf, hb1, hpost⟩
         have HP := Lib.hid hpost
         clear hpost
         cases bo
         · have hno : ∀ y, ¬ IsEv X y := by
             rcases HP.out with ⟨h', _⟩ | ⟨_, h'⟩
             · cases h'
             · exact h'
           clear HP
           go_wp2_with fail
           go_ret2
           refine src_no hws.out (by (repeat (first | exact Below.refl _ _ | assumption | refine ext_alloc ?_ _ | refine below_drewN ?_ _ | refine ext_drew ?_ | (refine below_tr ?_ (by assumption))))) fun es' h' => ?_
           obtain ⟨ev, _, hev⟩ := h'.2.at_ k (bytesL X) (by rw [List.getElem?_map, List.getElem?_eq_getElem hlt, ← HX.out]; rfl)
           exact hno ev (by rw [mk_of X]; exact hev)
         · have hyes : EvL (bytesL X) e := by
             rcases HP.out with ⟨_, h'⟩ | ⟨h', _⟩
             · show IsEv _ _
               rw [mk_of X] at h'; exact h'
             · cases h'
           have HY := Lib.hid hyes
           clear hyes HP
           have hsz1 := hb.size
           have hsz2 := hb1.size
           go_wp2_with (at_builtin; refine wpList_append_own _ rfl _ _ 48 rfl w.heap.size 82 i0 (.agg #[.string (ByteArray.mk #[]), .int .i64 0, .int .i64 0]) 3 32 Tryz.underlying48 hi hz0 hz1 hz2 rfl (by decide) _ _ _ rfl (row_belowK hrow (ext_alloc (ext_alloc hb1 _) _)) ⟨w1.heap.size + 1, 0, none⟩ 1 1 e.cells rfl rfl ?c1 ?c2 ?c3 ?c4 ?c5 ?_)
           case c1 =>
             intro j u hj
             match j, hj with
             | 0, hj => simp [Ev.cells] at hj; subst hj; simp [Addr.add, World.cell?_alloc_at]
             | 1, hj => simp [Ev.cells] at hj; subst hj; simp [Addr.add, World.cell?_alloc_at]
             | 2, hj => simp [Ev.cells] at hj; subst hj; simp [Addr.add, World.cell?_alloc_at]
           case c2 =>
             intro u hu
             simp [Ev.cells] at hu
             rcases hu with rfl | rfl | rfl <;> rfl
           case c3 => unfold maxLen; omega
           case c4 => omega
           case c5 => simp; omega
           intro v' w2 hown' hgrow _
           have hb2 := ext_alloc (ext_alloc hb1 (.cells #[.string e.key, .int .i64 e.at_, .int .i64 e.val] 82)) (.cells #[.string e.key, .int .i64 e.at_, .int .i64 e.val] 82)
           have hr2 := row_belowK hrow hb2
           have hbz := (below_tr hb hb2).trans (below_of_grownK hr2 (by simp; omega) hgrow)
           clear hr2 hgrow hrow
           go_wp2_with fail
           go_roundw
           case rel => exact ⟨k + 1, es ++ [e], by omega, by go_num, Lib.hid (by rw [HT.out]; exact hall.out.snoc HY.out), by simpa using hown', hbz⟩
           case measure => simp [intOf]; omega
       · have hke : k = xs.length := by omega
         have hall' := hall.out
         rw [List.take_of_length_le (by omega)] at hall'
         have HA := Lib.hid hall'
         clear hall' hall
         go_wp2_with fail
         go_ret2
         exact src_yes hws.out rfl hb hrow (by have := HM.out; omega) HA.out
end Go.Proofs.YtljbclkbmjjmdaaGreatDoor
