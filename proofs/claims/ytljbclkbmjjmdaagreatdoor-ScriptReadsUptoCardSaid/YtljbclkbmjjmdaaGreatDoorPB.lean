/- The walk of the plan's parser. -/
import Derived.Test.YtljbclkbmjjmdaaGreatDoorPA
namespace Go.Proofs.YtljbclkbmjjmdaaGreatDoor
open Go.RowKit Go.Shelf
def PlanPost (L : List UInt8) (w : World) (e : Ending) (w' : World) : Prop :=
  ∃ p f k vi va, e = .returned (.tuple #[.agg (plCells p vi va), .int .i64 f, .int .i64 k]) ∧ PlanRun L p f k ∧ Sl 1 rIn w' vi p.inputs ∧ Sl 3 rAc w' va p.acts ∧ Below w.heap.size w w'
theorem ac_cells {cs : List Ac} : ∀ {i : Nat} {e : Ac}, cs[i]? = some e → ∀ j u, (e.cells3)[j]? = some u → (cs.flatMap Ac.cells3)[i * 3 + j]? = some u := by
  induction cs with
  | nil => intro i e h; simp at h
  | cons x r ih =>
    intro i e h j u hu
    have hj : j < 3 := by have := (List.getElem?_eq_some_iff.1 hu).1; simpa [Ac.cells3] using this
    rw [List.flatMap_cons]
    cases i with
    | zero =>
      simp at h
      subst h
      rw [Nat.zero_mul, Nat.zero_add, List.getElem?_append_left (by simp [Ac.cells3]; omega)]
      exact hu
    | succ i =>
      simp at h
      rw [List.getElem?_append_right (by simp [Ac.cells3]; omega), show (i + 1) * 3 + j - x.cells3.length = i * 3 + j by simp [Ac.cells3]; omega]
      exact ih h j u hu
theorem act_sl {B : Nat} {va : Value} {cs : List Ac} {w : World} (h : ActAt B va cs w) : Sl 3 rAc w va cs := by
  obtain ⟨⟨hlen, hn | ⟨g, cap, cur, hv, hg, hh, hc, hm, hcs, ht⟩⟩, hw⟩ := h
  · obtain ⟨rfl, h0⟩ := hn
    obtain rfl := List.length_eq_zero_iff.1 h0
    exact Sl.nil _ _ _
  · subst hv
    refine ⟨_, _, rfl, ?_, hc, hm⟩
    intro i e hi
    refine ⟨g, 0, e.cells3, rfl, (Array.getElem?_eq_some_iff.1 hh).1, ⟨rfl, hw e (List.mem_of_getElem? hi)⟩, rfl, ?_⟩
    intro j u hu
    have h1 := ac_cells hi j u hu
    rw [← ht, List.getElem?_take] at h1
    split at h1
    · have h2 : cur[i * 3 + j]? = some u := by simpa using h1
      rw [Nat.zero_add, Lib.cell_of_heap hh]
      exact h2
    · cases h1
theorem in_sl {B : Nat} {vi : Value} {ss : List (List Ev)} {w : World} (h : InAt B vi ss w) : Sl 1 rIn w vi ss := by
  obtain ⟨vs, ⟨hlen, hn | ⟨g, cap, cur, hv, hg, hh, hc, hm, hcs, ht⟩⟩, ha⟩ := h
  · obtain ⟨rfl, h0⟩ := hn
    obtain rfl := List.length_eq_zero_iff.1 h0
    exact Sl.nil _ _ _
  · subst hv
    refine ⟨_, _, rfl, ?_, hc, hm⟩
    intro i es hi
    have hlen2 := ha.len
    obtain ⟨v, hvv⟩ : ∃ v, vs[i]? = some v := by
      have := (List.getElem?_eq_some_iff.1 hi).1
      exact ⟨vs[i]'(by omega), List.getElem?_eq_getElem _⟩
    obtain ⟨es', he, hr⟩ := ha.at_ i v hvv
    rw [hi] at he
    injection he with he
    subst he
    refine ⟨g, 0, [v], rfl, (Array.getElem?_eq_some_iff.1 hh).1, ⟨v, rfl, (owns_sl hr.1 hr.2).1⟩, rfl, ?_⟩
    intro j u hu
    match j, hu with
    | 0, hu =>
      simp at hu
      subst hu
      rw [← ht, List.getElem?_take] at hvv
      split at hvv
      · have h2 : cur[i]? = some v := by simpa using hvv
        rw [Lib.cell_of_heap hh]
        simpa using h2
      · cases hvv
theorem plan_zero {L : List UInt8} {w w' : World} {f k : Int} (h : PlanRun L zeroP f k) (hb : Below w.heap.size w w') : PlanPost L w (.returned (.tuple #[.agg (plCells zeroP nilV nilV), .int .i64 f, .int .i64 k])) w' :=
  ⟨zeroP, f, k, _, _, rfl, h, Sl.nil _ _ _, Sl.nil _ _ _, hb⟩
theorem st11_heap {W : World} {r : Nat} {y0 y1 y2 y3 y4 y5 y6 y7 y8 y9 y10 : Value} (z0 z1 z2 z3 z4 z5 z6 z7 z8 z9 z10 : Value) {T : TypeId} (h : W.heap[r]? = some (.cells #[y0, y1, y2, y3, y4, y5, y6, y7, y8, y9, y10] T (0, 0))) :
    (((((((((((W.setCell ⟨r, 0, none⟩ z0).setCell ⟨r, 1, none⟩ z1).setCell ⟨r, 2, none⟩ z2).setCell ⟨r, 3, none⟩ z3).setCell ⟨r, 4, none⟩ z4).setCell ⟨r, 5, none⟩ z5).setCell ⟨r, 6, none⟩ z6).setCell ⟨r, 7, none⟩ z7).setCell ⟨r, 8, none⟩ z8).setCell ⟨r, 9, none⟩ z9).setCell ⟨r, 10, none⟩ z10).heap[r]? = some (.cells #[z0, z1, z2, z3, z4, z5, z6, z7, z8, z9, z10] T (0, 0)) := by
  have h0 := heap_setCell_same W r 0 _ T z0 h
  have h1 := heap_setCell_same _ r 1 _ T z1 h0
  have h2 := heap_setCell_same _ r 2 _ T z2 h1
  have h3 := heap_setCell_same _ r 3 _ T z3 h2
  have h4 := heap_setCell_same _ r 4 _ T z4 h3
  have h5 := heap_setCell_same _ r 5 _ T z5 h4
  have h6 := heap_setCell_same _ r 6 _ T z6 h5
  have h7 := heap_setCell_same _ r 7 _ T z7 h6
  have h8 := heap_setCell_same _ r 8 _ T z8 h7
  have h9 := heap_setCell_same _ r 9 _ T z9 h8
  have h10 := heap_setCell_same _ r 10 _ T z10 h9
  simpa using h10
theorem plan_ret {B : Nat} {s : ByteArray} {W : World} (p : Pl) (vi va : Value) (h : Fix B s W) : (((((((((((W.setCell ⟨B + 1, 0, none⟩ (.int .i64 p.job.groups)).setCell ⟨B + 1, 1, none⟩ (.int .i64 p.job.size)).setCell ⟨B + 1, 2, none⟩ (.int .i64 p.job.slide)).setCell ⟨B + 1, 3, none⟩ (.int .i64 p.job.fold)).setCell ⟨B + 1, 4, none⟩ (.int .i64 p.job.fuel)).setCell ⟨B + 1, 5, none⟩ (.int .i64 p.job.limit)).setCell ⟨B + 1, 6, none⟩ (.int .i64 p.job.delay)).setCell ⟨B + 1, 7, none⟩ (.int .i64 p.job.idle)).setCell ⟨B + 1, 8, none⟩ vi).setCell ⟨B + 1, 9, none⟩ (.int .i64 p.workers)).setCell ⟨B + 1, 10, none⟩ va).heap[B + 1]? = some (.cells (plCells p vi va) 27 (0, 0)) :=
  st11_heap _ _ _ _ _ _ _ _ _ _ _ h.res
theorem lines_step {k at_ : Nat} {L a b : List UInt8} (hc : Cut10 (L.drop at_) a b) (hb : L.drop (at_ + a.length + 1) = b) (hl : at_ + a.length + 1 ≤ L.length) (h : ∀ x y, Heads (k + 1) (L.drop at_) x y → Heads 6 L (L.take at_ ++ x) y) :
    (∀ x y, Heads k (L.drop (at_ + a.length + 1)) x y → Heads 6 L (L.take (at_ + a.length + 1) ++ x) y) ∧ (L.take (at_ + a.length + 1)).count 10 = (L.take at_).count 10 + 1 := by
  have e : L.take (at_ + a.length + 1) = L.take at_ ++ (a ++ [10]) := by
    rw [show at_ + a.length + 1 = at_ + (a.length + 1) by omega, List.take_add, hc.1]
    congr 1
    rw [show a ++ 10 :: b = (a ++ [10]) ++ b by simp, List.take_left' (by simp)]
  refine ⟨fun x y hxy => ?_, ?_⟩
  · rw [hb] at hxy
    have := h _ _ (.line k _ a b x y hc hxy)
    rw [e]
    simpa using this
  · rw [e, List.count_append, List.count_append, List.count_eq_zero.2 hc.2]
    simp
theorem news_alloc (W : World) (cs : List Value) (T : TypeId) {n : Nat} (hn : W.heap.size = n) : ∀ j u, cs[j]? = some u → (W.alloc (.cells cs.toArray T)).cell? ((⟨n, 0, none⟩ : Addr).add j) = some u := by
  intro j u hj
  have e : ((⟨n, 0, none⟩ : Addr).add j) = ⟨n, j, none⟩ := by cases j <;> simp [Addr.add]
  rw [e, World.cell?_alloc_at _ _ _ _ hn.symm]
  simpa using hj
theorem row_val {W : World} {B k n : Nat} {T : TypeId} {v : Value} {xs : List Value} (h : W.ownsRow B T k v n xs) : ∃ A c, v = .slice A n c := by
  rcases h.2 with ⟨rfl, h0⟩ | ⟨g, cap, cur, rfl, _⟩
  · exact ⟨none, 0, by rw [h0]⟩
  · exact ⟨_, _, rfl⟩
theorem one_cell {v : Value} (h : v.oneCell' = true) : ∀ u ∈ [v], u.oneCell' = true := by
  intro u hu
  rw [List.mem_singleton.1 hu]
  exact h
theorem cells3_one (c : Ac) : ∀ u ∈ c.cells3, u.oneCell' = true := by
  intro u hu
  simp [Ac.cells3] at hu
  rcases hu with rfl | rfl | rfl <;> rfl
def atOf (b : Nat) (W : World) : Nat := match W.cell? ⟨b, 0, none⟩ with | some (.int _ n) => n.toNat | _ => 0
theorem at_of {b n : Nat} {W : World} (h : IntAt b n W) : atOf b W = n := by
  unfold atOf
  rw [h.cell.1]
  simp
theorem evs_info : (Tryz.prog.info? 48).map (fun i => (i.zero, i.size, i.bytes)) = some (some (.slice none 0 0), 1, 24) := by kernel_rfl
theorem acts_info : (Tryz.prog.info? 52).map (fun i => (i.zero, i.size, i.bytes)) = some (some (.agg #[.int .i64 0, .int .i64 0, .int .i64 0]), 3, 24) := by kernel_rfl
theorem slice_one {W : World} {B k n : Nat} {T : TypeId} {v : Value} {xs : List Value} (h : W.ownsRow B T k v n xs) : v.oneCell' = true := by
  rcases h.2 with ⟨rfl, _⟩ | ⟨g, cap, cur, rfl, _⟩ <;> rfl
theorem row_lower {W : World} {B C k n : Nat} {T : TypeId} {v : Value} {xs : List Value} (h : W.ownsRow B T k v n xs) (hc : C ≤ B) : W.ownsRow C T k v n xs := by
  refine ⟨h.1, ?_⟩
  rcases h.2 with hn | ⟨g, cap, cur, hv, hg, r⟩
  · exact .inl hn
  · exact .inr ⟨g, cap, cur, hv, Nat.le_trans hc hg, r⟩
theorem L2.plan_in {B : Nat} {s : ByteArray} {w0 : World} {bp : Nat} {p : Pl} {vi va v : Value} {at_ no : Nat} {W W1 : World} (h : L2 B s w0 bp p vi va at_ no W) {k n : Nat} {T : TypeId} {xs : List Value} (hr : W.ownsRow B T k v n xs) (hT : T ≠ 27) (hg : W.grownBy W1 v.ownBlock) : PlanAt bp p vi va W1 := by
  refine heap_kept (KeptX.of_grown (X := fun i => v.ownBlock = some i) hg (fun g e => e)) h.plan (fun e => ?_)
  obtain ⟨_, cur, h1⟩ := own_type hr e
  have h2 := h.plan
  unfold PlanAt at h2
  rw [h1] at h2
  injection h2 with h2
  injection h2 with _ h2
  exact hT h2
theorem plan_end {L : List UInt8} {s : ByteArray} {w : World} {bp : Nat} {p : Pl} {vi va : Value} {at_ no : Nat} {W : World} (h : L2 w.heap.size s w bp p vi va at_ no W) (hr : PlanRun L p 0 0) :
    PlanPost L w (.returned (.tuple #[.agg (plCells p vi va), .int .i64 0, .int .i64 0])) (((((((((((W.setCell ⟨w.heap.size + 1, 0, none⟩ (.int .i64 p.job.groups)).setCell ⟨w.heap.size + 1, 1, none⟩ (.int .i64 p.job.size)).setCell ⟨w.heap.size + 1, 2, none⟩ (.int .i64 p.job.slide)).setCell ⟨w.heap.size + 1, 3, none⟩ (.int .i64 p.job.fold)).setCell ⟨w.heap.size + 1, 4, none⟩ (.int .i64 p.job.fuel)).setCell ⟨w.heap.size + 1, 5, none⟩ (.int .i64 p.job.limit)).setCell ⟨w.heap.size + 1, 6, none⟩ (.int .i64 p.job.delay)).setCell ⟨w.heap.size + 1, 7, none⟩ (.int .i64 p.job.idle)).setCell ⟨w.heap.size + 1, 8, none⟩ vi).setCell ⟨w.heap.size + 1, 9, none⟩ (.int .i64 p.workers)).setCell ⟨w.heap.size + 1, 10, none⟩ va) := by
  have key : ∀ A, KeptX (fun i => i = w.heap.size + 1) W A → ∀ o v, KeptX (fun i => i = w.heap.size + 1) W (A.setCell ⟨w.heap.size + 1, o, none⟩ v) := fun A hA o v => hA.trans (KeptX.set _ _ _ rfl)
  have hk := key _ (key _ (key _ (key _ (key _ (key _ (key _ (key _ (key _ (key _ (key _ (KeptX.refl _ _) 0 (.int .i64 p.job.groups)) 1 (.int .i64 p.job.size)) 2 (.int .i64 p.job.slide)) 3 (.int .i64 p.job.fold)) 4 (.int .i64 p.job.fuel)) 5 (.int .i64 p.job.limit)) 6 (.int .i64 p.job.delay)) 7 (.int .i64 p.job.idle)) 8 vi) 9 (.int .i64 p.workers)) 10 va
  have hoff : ∀ T, T ≠ 27 → Off (fun i => i = w.heap.size + 1) T W := fun T hT => off_of fun g e => ⟨_, _, e ▸ h.fix.res, Ne.symm hT⟩
  exact ⟨p, 0, 0, vi, va, rfl, hr, in_sl (h.ins.kept hk (hoff _ (by decide)) (hoff _ (by decide))), act_sl (h.acts.kept hk (hoff _ (by decide))), h.below.trans (hk.below (fun i hi => by omega) h.below.size)⟩
theorem fail_lit (n : Int) (w : World) : Calls Tryz.prog 16 #[.int .i64 n] w fun e w' => e = .returned (.tuple #[.agg #[.int .i64 0, .int .i64 0, .int .i64 0, .int .i64 0, .int .i64 0, .int .i64 0, .int .i64 0, .int .i64 0, .slice none 0 0, .int .i64 0, .slice none 0 0], .int .i64 240, .int .i64 n]) ∧ Below w.heap.size w w' := fail_calls n w
theorem job_lit (t : ByteArray) (ht : t.size < 4294967281) (w : World) (h : Env w) : Calls Tryz.prog 15 #[.string t] w fun e w' => ∃ x f n, e = .returned (.tuple #[.agg #[.int .i64 x.groups, .int .i64 x.size, .int .i64 x.slide, .int .i64 x.fold, .int .i64 x.fuel, .int .i64 x.limit, .int .i64 x.delay, .int .i64 x.idle], .int .i64 f, .int .i64 n]) ∧ JobRun 1 t.data.toList zeroJ x f n ∧ Below w.heap.size w w' := job_parse t ht w h
theorem job_count {k : Int} {l : List UInt8} {j x : Jb} {e n : Int} (h : JobRun k l j x e n) : e = 0 → (l.count 10 : Int) = 7 - k := by
  induction h with
  | bad => intro h; cases h
  | more => intro h; cases h
  | wrong => intro h; cases h
  | done => intro _; rfl
  | step k l a b j j' x e n h1 h6 hc hl hr ih =>
    intro he
    have := ih he
    rw [hc.1, List.count_append, List.count_eq_zero.2 hc.2, List.count_cons_self]
    omega
set_option maxHeartbeats 4000000 in
set_option maxRecDepth 100000 in
theorem parse_calls (s : ByteArray) (hs : s.size < 4294967281) (w : World) (h : Env w) : Calls Tryz.prog 6 #[.string s] w (PlanPost s.data.toList w) := by
  obtain ⟨fs, hu⟩ := plan_struct2
  obtain ⟨L, hL⟩ : ∃ L, L = s.data.toList := ⟨_, rfl⟩
  have hLs : L.length = s.size := by rw [hL]; exact bytesL_length s
  have HN := fun (at_ no : Nat) (W : World) (hb : Below w.heap.size w W) (hf : Fix w.heap.size s W) (ha : IntAt (w.heap.size + 2) at_ W) (hn : IntAt (w.heap.size + 3) no W) (h2 : at_ ≤ s.size) (h3 : no ≤ s.size) =>
    Lib.hid (next_calls s hs w.heap.size (w.heap.size + 1 + 1) (w.heap.size + 1 + 1 + 1) at_ no w W h hb (by omega) (by omega) hf.cell ha hn (by omega) h2 h3)
  rw [← hL] at HN ⊢
  have HL := Lib.hid hL
  have HLS := Lib.hid hLs
  clear hL hLs
  go_enter Tryz.func6, Tryz.ntmps6
  go_upto_block 0 with fail
  go_cut [8] (fun s8 wx => ∃ at_ no : Nat, Below w.heap.size w wx ∧ Fix w.heap.size s wx ∧ IntAt (w.heap.size + 2) at_ wx ∧ IntAt (w.heap.size + 3) no wx ∧ at_ ≤ s.size ∧ no ≤ at_ ∧ Heads 6 L (L.take at_) (L.drop at_) ∧ (L.take at_).count 10 = no)
  case first =>
    go_wp2_with fail
    go_loopw [23] (fun v23 wr => ∃ c at_ no : Nat, c ≤ 6 ∧ v23 = .int .i64 c ∧ Below w.heap.size w wr ∧ Hid (Fix w.heap.size s wr) ∧ Hid (IntAt (w.heap.size + 2) at_ wr) ∧ Hid (IntAt (w.heap.size + 3) no wr) ∧ at_ ≤ s.size ∧ no ≤ at_ ∧ Hid ((∀ x y, Heads (6 - c) (L.drop at_) x y → Heads 6 L (L.take at_ ++ x) y) ∧ (L.take at_).count 10 = no)) (fun v23 _ => 6 - (intOf v23).toNat)
    case atStart =>
      exact ⟨0, 0, 0, by omega, rfl, by (repeat (first | exact Below.refl _ _ | assumption | refine ext_alloc ?_ _ | refine below_drewN ?_ _ | refine ext_drew ?_ | (refine below_tr ?_ (by assumption)))), Lib.hid ⟨heap_alloc_keep _ (heap_alloc_keep _ (heap_alloc_keep _ (heap_alloc_new w _))), heap_alloc_keep _ (heap_alloc_keep _ (heap_alloc_new' (by simp) _))⟩, Lib.hid (heap_alloc_keep _ (heap_alloc_new' (by simp) _)), Lib.hid (heap_alloc_new' (by simp) _), by omega, by omega, Lib.hid ⟨fun x y hxy => by simpa using hxy, by simp⟩⟩
    case round =>
      obtain ⟨c, at_, no, hc6, rfl, hb, hfix, hat, hno, ha1, ha2, hh⟩ := hrel
      by_cases hlt : c < 6
      · have HNX := HN at_ no wr hb hfix.out hat.out hno.out ha1 (by omega)
        go_wp2_with ((with_reducible refine HNX.out.mono ?_))
        rintro e w1 hp
        rcases hp with ⟨hnone, rfl, hb1⟩ | ⟨a, b, g, hcut, hl, hd, rfl, hsl, hk, hia, hin⟩
        · have HNO := Lib.hid hnone
          clear hnone
          go_wp2_with fail
          go_meet
          case rel => exact ⟨at_, no, below_tr hb hb1, hfix.out.mono hb1, hat.out.mono hb1, hno.out.mono hb1, ha1, ha2, by
            have := hh.out.1 [] (L.drop at_) (by rw [show 6 - c = (5 - c) + 1 by omega]; exact .short _ _ HNO.out)
            simpa using this, hh.out.2⟩
        · have HST := Lib.hid (lines_step (k := 5 - c) hcut hd hl (by rw [show 5 - c + 1 = 6 - c by omega]; exact hh.out.1))
          have hlz := HLS.out
          have HK := Lib.hid hk
          have HIA := Lib.hid hia
          have HIN := Lib.hid hin
          clear hcut hd hsl hk hia hin
          go_wp2_with fail
          go_roundw
          case rel =>
            exact ⟨c + 1, at_ + a.length + 1, no + 1, by omega, by go_num, (hb.trans (HK.out.below (fun i hi => by omega) hb.size)), Lib.hid (hfix.out.kept HK.out (by omega) (by omega)), HIA, HIN, by omega, by omega, Lib.hid ⟨by rw [show 6 - (c + 1) = 5 - c by omega]; exact HST.out.1, by rw [HST.out.2, hh.out.2]⟩⟩
          case measure => simp [intOf]; omega
      · obtain rfl : c = 6 := by omega
        go_wp2_with fail
        go_meet
        case rel => exact ⟨at_, no, hb, hfix.out, hat.out, hno.out, ha1, ha2, by
            have := hh.out.1 [] (L.drop at_) (.stop _)
            simpa using this, hh.out.2⟩
  case rest =>
    obtain ⟨at_, no, hb, hfix, hat, hno, ha1, ha2, hh, hcnt⟩ := hcut
    obtain ⟨t, ht⟩ : ∃ t, t = s.extract 0 at_ := ⟨_, rfl⟩
    have htd : t.data.toList = L.take at_ := by rw [ht, HL.out]; exact Lib.extract_from_zero _ _
    have hts : t.size ≤ s.size := by rw [ht]; simp; omega
    have HJP := Lib.hid (job_lit t (by omega) wc (h.mono hb))
    rw [htd, ht] at HJP
    obtain ⟨i1, _⟩ := hat.cell
    have i0 := hfix.cell
    have HH := Lib.hid (And.intro hh hcnt)
    have HX := Lib.hid (And.intro hfix (And.intro hat hno))
    clear hfix hat hno hh hcnt ht htd
    go_wp2_with (go_at_call 15; (with_reducible refine HJP.out.mono ?_))
    rintro e w1 ⟨x, f, n, rfl, hjr, hb1⟩
    have HJR := Lib.hid hjr
    have HB1 := Lib.hid (below_tr hb hb1)
    have HX1 := Lib.hid (And.intro (HX.out.1.mono hb1) (And.intro (HX.out.2.1.mono hb1) (HX.out.2.2.mono hb1)))
    clear hjr hb1 hb HX HJP i0 i1
    by_cases hf : f = 0
    · subst hf
      have hno6 : no = 6 := by
        have h1 := job_count HJR.out rfl
        rw [HH.out.2] at h1
        omega
      subst hno6
      have hOJ := job_once HJR.out
      have HOJ := Lib.hid hOJ
      clear hOJ
      obtain ⟨W, hW⟩ : ∃ W, W = (w1.alloc (.cells (jbCells x) 23)).alloc (.cells (plCells ⟨x, [], 0, []⟩ nilV nilV) 27) := ⟨_, rfl⟩
      have hbW : Below w1.heap.size w1 W := by rw [hW]; exact ext_alloc (ext_alloc (Below.refl _ _) _) _
      have hL2 : L2 w.heap.size s w (w1.heap.size + 1) ⟨x, [], 0, []⟩ nilV nilV at_ 6 W := by
        have hz : w.heap.size + 3 < w1.heap.size := HX1.out.2.2.lt
        exact ⟨below_tr HB1.out hbW, HX1.out.1.mono hbW, HX1.out.2.1.mono hbW, HX1.out.2.2.mono hbW, by rw [hW]; exact heap_alloc_new' (by simp) _, ⟨[], ⟨rfl, .inl ⟨rfl, rfl⟩⟩, trivial⟩, ⟨⟨rfl, .inl ⟨rfl, rfl⟩⟩, fun a ha => by simp at ha⟩, by omega, ha1, ha2⟩
      have HNX := HN at_ 6 W hL2.below hL2.fix hL2.iat hL2.ino ha1 (by omega)
      have HW := Lib.hid hW
      have HL2 := Lib.hid hL2
      have HBP := Lib.hid (show w.heap.size + 4 ≤ w1.heap.size + 1 from hL2.hbp)
      clear hW hL2 hbW HX1 HB1
      go_wp2_with fail
      rw [show (w1.alloc (.cells #[.int .i64 x.groups, .int .i64 x.size, .int .i64 x.slide, .int .i64 x.fold, .int .i64 x.fuel, .int .i64 x.limit, .int .i64 x.delay, .int .i64 x.idle] 23)).alloc (.cells #[.int .i64 x.groups, .int .i64 x.size, .int .i64 x.slide, .int .i64 x.fold, .int .i64 x.fuel, .int .i64 x.limit, .int .i64 x.delay, .int .i64 x.idle, .slice none 0 0, .int .i64 0, .slice none 0 0] 27) = W from HW.out.symm]
      (with_reducible refine HNX.out.mono ?_)
      rintro e w2 hp
      rcases hp with ⟨hnone, rfl, hb2⟩ | ⟨a, b, g, hcut, hl, hd, he, hsl, hk, hia, hin⟩
      · have HRUN := Lib.hid (PlanRun.seven L _ _ x n HH.out.1 HJR.out (fun a b m hc _ => hnone a b hc))
        have HL3 := Lib.hid (HL2.out.mono hb2)
        clear hnone hb2
        go_wp2_with ((with_reducible refine (fail_lit 7 _).mono ?_))
        rintro e wf ⟨rfl, hbf⟩
        have HFX := Lib.hid ((HL3.out.fix).mono hbf)
        have HBF := Lib.hid (below_tr (HL3.out.below) hbf)
        have d0 := ((HFX.out).rcell 0 (.int .i64 0) rfl).1
        have u0 := ((HFX.out).rcell 0 (.int .i64 0) rfl).2
        have d1 := ((HFX.out).rcell 1 (.int .i64 0) rfl).1
        have u1 := ((HFX.out).rcell 1 (.int .i64 0) rfl).2
        have d2 := ((HFX.out).rcell 2 (.int .i64 0) rfl).1
        have u2 := ((HFX.out).rcell 2 (.int .i64 0) rfl).2
        have d3 := ((HFX.out).rcell 3 (.int .i64 0) rfl).1
        have u3 := ((HFX.out).rcell 3 (.int .i64 0) rfl).2
        have d4 := ((HFX.out).rcell 4 (.int .i64 0) rfl).1
        have u4 := ((HFX.out).rcell 4 (.int .i64 0) rfl).2
        have d5 := ((HFX.out).rcell 5 (.int .i64 0) rfl).1
        have u5 := ((HFX.out).rcell 5 (.int .i64 0) rfl).2
        have d6 := ((HFX.out).rcell 6 (.int .i64 0) rfl).1
        have u6 := ((HFX.out).rcell 6 (.int .i64 0) rfl).2
        have d7 := ((HFX.out).rcell 7 (.int .i64 0) rfl).1
        have u7 := ((HFX.out).rcell 7 (.int .i64 0) rfl).2
        have d8 := ((HFX.out).rcell 8 (.slice none 0 0) rfl).1
        have u8 := ((HFX.out).rcell 8 (.slice none 0 0) rfl).2
        have d9 := ((HFX.out).rcell 9 (.int .i64 0) rfl).1
        have u9 := ((HFX.out).rcell 9 (.int .i64 0) rfl).2
        have d10 := ((HFX.out).rcell 10 (.slice none 0 0) rfl).1
        have u10 := ((HFX.out).rcell 10 (.slice none 0 0) rfl).2
        go_wp2_with fail
        refine bodyPost_ret (results_cell_tmp2_row rfl _ _ (w.heap.size + 1) _ (plCells zeroP nilV nilV) (0, 0) (.struct fs) rfl (plan_ret zeroP nilV nilV (HFX.out)) hu rfl plan_info2) rfl ?_
        exact plan_zero (HRUN.out) (by (repeat (with_reducible refine ext_setCell ?_ (by show w.heap.size ≤ w.heap.size + 1; omega) _)); exact HBF.out)
      · obtain ⟨y, ys, hws⟩ : ∃ y ys, wordsB a = y :: ys := by
          cases hc : wordsB a with
          | nil => have := wordsB_pos a; rw [hc] at this; simp at this
          | cons y ys => exact ⟨y, ys, rfl⟩
        have hbytes := wordsB_bytes a
        have hzs := wordsB_size a
        rw [hws] at he hsl hbytes hzs
        simp only [List.length_cons] at he hsl
        subst he
        obtain ⟨A, c, hv, hsl, hc, hmx⟩ := hsl
        injection hv with hv1 hv2 hv3
        subst hv1
        subst hv3
        obtain ⟨b', o', hbo, hbz, hst, u, ⟨hu, hyw⟩, hcell⟩ := sl_tail hsl
        injection hbo with hbo
        injection hbo with q1 q2
        subst q1 q2
        injection hu with hu
        subst hu
        have hlz := HLS.out
        have HL3 := Lib.hid (HL2.out.next (at' := at_ + a.length + 1) (no' := 7) hk hia hin (by omega) (by omega))
        have HCUT := Lib.hid (And.intro hcut hd)
        have HBY := Lib.hid hbytes
        have HLE := Lib.hid hl
        clear hsl hv2 hcut hd hk hia hin hbytes hws hl hlz
        by_cases hlen : ys.length = 1
        · obtain ⟨z, rfl⟩ := List.length_eq_one_iff.1 hlen
          obtain ⟨b'', o'', z', hA, hz2, ⟨hz3, hzw⟩, hcz⟩ := hst.one 0 (by simp)
          injection hA with hA
          injection hA with q1 q2
          subst q1 q2
          injection hz3 with hz3
          subst hz3
          simp only [List.getElem_cons_zero, Nat.add_zero, Nat.zero_add] at hcz hzw
          have hzz : z.size ≤ 281474976710656 := by
            have h1 := hzs z (by simp)
            have h2 := HLE.out
            have h3 := HLS.out
            omega
          clear hst hlen hzs hc hmx
          by_cases hy : bytesL y = workersWord
          · obtain rfl : y = ByteArray.mk #[119, 111, 114, 107, 101, 114, 115] := ba_ext hy
            have HNU := Lib.hid (number_calls z 8 hzz w2 (h.mono HL3.out.below))
            clear hy
            go_wp2_with (go_at_call 17; (with_reducible refine HNU.out.mono ?_))
            rintro e w3 ⟨m, bo, rfl, hmw, hb3, hmp⟩
            have HL4 := Lib.hid (HL3.out.mono hb3)
            have HMP := Lib.hid hmp
            have k9 : w3.cell? ⟨w1.heap.size + 1, 9, none⟩ = some (.int .i64 0) := (HL4.out.plan.cell 9 _ rfl).1
            have f9 : w3.frozen? ⟨w1.heap.size + 1, 9, none⟩ = false := (HL4.out.plan.cell 9 _ rfl).2
            have HL5 := Lib.hid (HL4.out.work m)
            have k9' : (w3.setCell ⟨w1.heap.size + 1, 9, none⟩ (.int .i64 m)).cell? ⟨w1.heap.size + 1, 9, none⟩ = some (.int .i64 m) := (HL5.out.plan.cell 9 _ rfl).1
            clear hmp hb3 hcell hcz
            cases bo
            · have HRUN := Lib.hid (PlanRun.seven L _ _ x n HH.out.1 HJR.out (fun a' b' m' hc hw => by
                obtain ⟨rfl, rfl⟩ := HCUT.out.1.eq hc
                obtain ⟨x', ex, hx', h1, h8⟩ := hw
                rw [← HBY.out] at ex
                injection ex with _ ex
                injection ex with ex _
                rcases HMP.out with ⟨h', _⟩ | ⟨_, h'⟩
                · cases h'
                · exact h' m' ⟨hx'.1, by rw [← hx'.2.1, ← ex]; rfl⟩ ⟨hx'.2.2, h8⟩))
              go_wp2_with ((with_reducible refine (fail_lit 7 _).mono ?_))
              rintro e wf ⟨rfl, hbf⟩
              have HFX := Lib.hid ((HL5.out.fix).mono hbf)
              have HBF := Lib.hid (below_tr (HL5.out.below) hbf)
              have d0 := ((HFX.out).rcell 0 (.int .i64 0) rfl).1
              have u0 := ((HFX.out).rcell 0 (.int .i64 0) rfl).2
              have d1 := ((HFX.out).rcell 1 (.int .i64 0) rfl).1
              have u1 := ((HFX.out).rcell 1 (.int .i64 0) rfl).2
              have d2 := ((HFX.out).rcell 2 (.int .i64 0) rfl).1
              have u2 := ((HFX.out).rcell 2 (.int .i64 0) rfl).2
              have d3 := ((HFX.out).rcell 3 (.int .i64 0) rfl).1
              have u3 := ((HFX.out).rcell 3 (.int .i64 0) rfl).2
              have d4 := ((HFX.out).rcell 4 (.int .i64 0) rfl).1
              have u4 := ((HFX.out).rcell 4 (.int .i64 0) rfl).2
              have d5 := ((HFX.out).rcell 5 (.int .i64 0) rfl).1
              have u5 := ((HFX.out).rcell 5 (.int .i64 0) rfl).2
              have d6 := ((HFX.out).rcell 6 (.int .i64 0) rfl).1
              have u6 := ((HFX.out).rcell 6 (.int .i64 0) rfl).2
              have d7 := ((HFX.out).rcell 7 (.int .i64 0) rfl).1
              have u7 := ((HFX.out).rcell 7 (.int .i64 0) rfl).2
              have d8 := ((HFX.out).rcell 8 (.slice none 0 0) rfl).1
              have u8 := ((HFX.out).rcell 8 (.slice none 0 0) rfl).2
              have d9 := ((HFX.out).rcell 9 (.int .i64 0) rfl).1
              have u9 := ((HFX.out).rcell 9 (.int .i64 0) rfl).2
              have d10 := ((HFX.out).rcell 10 (.slice none 0 0) rfl).1
              have u10 := ((HFX.out).rcell 10 (.slice none 0 0) rfl).2
              go_wp2_with fail
              refine bodyPost_ret (results_cell_tmp2_row rfl _ _ (w.heap.size + 1) _ (plCells zeroP nilV nilV) (0, 0) (.struct fs) rfl (plan_ret zeroP nilV nilV (HFX.out)) hu rfl plan_info2) rfl ?_
              exact plan_zero (HRUN.out) (by (repeat (with_reducible refine ext_setCell ?_ (by show w.heap.size ≤ w.heap.size + 1; omega) _)); exact HBF.out)
            · by_cases hm1 : m < 1
              · have HRUN := Lib.hid (PlanRun.seven L _ _ x n HH.out.1 HJR.out (fun a' b' m' hc hw => by
                  obtain ⟨rfl, rfl⟩ := HCUT.out.1.eq hc
                  obtain ⟨x', ex, hx', h1, h8⟩ := hw
                  rw [← HBY.out] at ex
                  injection ex with _ ex
                  injection ex with ex _
                  rcases HMP.out with ⟨_, h', _⟩ | ⟨h', _⟩
                  · have e1 : m = m' := h'.eq ⟨hx'.1, by rw [← hx'.2.1, ← ex]; rfl⟩
                    omega
                  · cases h'))
                go_wp2_with ((with_reducible refine (fail_lit 7 _).mono ?_))
                rintro e wf ⟨rfl, hbf⟩
                have HFX := Lib.hid ((HL5.out.fix).mono hbf)
                have HBF := Lib.hid (below_tr (HL5.out.below) hbf)
                have d0 := ((HFX.out).rcell 0 (.int .i64 0) rfl).1
                have u0 := ((HFX.out).rcell 0 (.int .i64 0) rfl).2
                have d1 := ((HFX.out).rcell 1 (.int .i64 0) rfl).1
                have u1 := ((HFX.out).rcell 1 (.int .i64 0) rfl).2
                have d2 := ((HFX.out).rcell 2 (.int .i64 0) rfl).1
                have u2 := ((HFX.out).rcell 2 (.int .i64 0) rfl).2
                have d3 := ((HFX.out).rcell 3 (.int .i64 0) rfl).1
                have u3 := ((HFX.out).rcell 3 (.int .i64 0) rfl).2
                have d4 := ((HFX.out).rcell 4 (.int .i64 0) rfl).1
                have u4 := ((HFX.out).rcell 4 (.int .i64 0) rfl).2
                have d5 := ((HFX.out).rcell 5 (.int .i64 0) rfl).1
                have u5 := ((HFX.out).rcell 5 (.int .i64 0) rfl).2
                have d6 := ((HFX.out).rcell 6 (.int .i64 0) rfl).1
                have u6 := ((HFX.out).rcell 6 (.int .i64 0) rfl).2
                have d7 := ((HFX.out).rcell 7 (.int .i64 0) rfl).1
                have u7 := ((HFX.out).rcell 7 (.int .i64 0) rfl).2
                have d8 := ((HFX.out).rcell 8 (.slice none 0 0) rfl).1
                have u8 := ((HFX.out).rcell 8 (.slice none 0 0) rfl).2
                have d9 := ((HFX.out).rcell 9 (.int .i64 0) rfl).1
                have u9 := ((HFX.out).rcell 9 (.int .i64 0) rfl).2
                have d10 := ((HFX.out).rcell 10 (.slice none 0 0) rfl).1
                have u10 := ((HFX.out).rcell 10 (.slice none 0 0) rfl).2
                go_wp2_with fail
                refine bodyPost_ret (results_cell_tmp2_row rfl _ _ (w.heap.size + 1) _ (plCells zeroP nilV nilV) (0, 0) (.struct fs) rfl (plan_ret zeroP nilV nilV (HFX.out)) hu rfl plan_info2) rfl ?_
                exact plan_zero (HRUN.out) (by (repeat (with_reducible refine ext_setCell ?_ (by show w.heap.size ≤ w.heap.size + 1; omega) _)); exact HBF.out)
              · have HWK : Hid (WorkIs a m) := Lib.hid (by
                  rcases HMP.out with ⟨_, h', h0, h8⟩ | ⟨h', _⟩
                  · exact ⟨bytesL z, HBY.out.symm, ⟨h'.1, h'.2, h0⟩, by omega, h8⟩
                  · cases h')
                have HRUN := Lib.hid (fun x' e' k' (hr : ScrRun 7 (L.drop (at_ + a.length + 1)) ⟨x, [], m, []⟩ x' e' k') => PlanRun.go L _ _ a b x n m x' e' k' HH.out.1 HJR.out HCUT.out.1 HWK.out (by rw [← HCUT.out.2]; exact hr))
                have hi1 := HL5.out.hat
                have hi2 : (7 : Nat) ≤ s.size := Nat.le_trans HL5.out.hno HL5.out.hat
                clear HNX HL2 HL3 HL4 HW HOJ HJR HBP
                go_wp2_with fail
                clear k9 f9 k9'
                go_loopw [91] (fun v91 wr => ∃ (p : Pl) (vi va : Value) (at_ no : Nat), Hid (L2 w.heap.size s w (w1.heap.size + 1) p vi va at_ no wr) ∧ p.inputs.length ≤ 4 ∧ p.acts.length ≤ 400 ∧ at_ ≤ s.size ∧ no ≤ s.size ∧ Hid (∀ x' e' k', ScrRun no (L.drop at_) p x' e' k' → PlanRun L x' e' k')) (fun _ wr => s.size - atOf (w.heap.size + 2) wr)
                case atStart => exact ⟨_, _, _, _, _, HL5, by simp, by simp, hi1, hi2, HRUN⟩
                case round =>
                  clear hi1 hi2 ha1 ha2 HH
                  obtain ⟨p, vi, va, at_, no, hl2, hpi, hpa, ha1, hn1, hrun⟩ := hrel
                  have HNX := HN at_ no wr hl2.out.below hl2.out.fix hl2.out.iat hl2.out.ino ha1 hn1
                  obtain ⟨Ai, ci, rfl⟩ := hl2.out.ins.val
                  obtain ⟨Aa, ca, rfl⟩ := hl2.out.acts.val
                  have i1 := hl2.out.fix.cell
                  have i5 : wr.cell? ⟨w.heap.size + 1 + 1, 0, none⟩ = some (.int .i64 at_) := hl2.out.iat.cell.1
                  have HMZ := Lib.hid (at_of hl2.out.iat)
                  by_cases hlt : at_ < s.size
                  · go_wp2_with ((with_reducible refine HNX.out.mono ?_))
                    rintro e w4 hp
                    clear i1 i5 HNX
                    rcases hp with ⟨hnone, rfl, hb2⟩ | ⟨a2, b2, g2, hcut, hl, hd, he, hsl, hk, hia, hin⟩
                    · have HRUN2 := Lib.hid (hrun.out _ _ _ (ScrRun.open_ no _ p (fun e => by have := congrArg List.length e; have h2 := HLS.out; simp at this; omega) hnone))
                      have HL6 := Lib.hid (hl2.out.mono hb2)
                      have j6 : w4.cell? ⟨w.heap.size + 1 + 1 + 1, 0, none⟩ = some (.int .i64 no) := HL6.out.ino.cell.1
                      clear hnone hb2 hrun hl2
                      go_wp2_with ((with_reducible refine (fail_lit _ _).mono ?_))
                      rintro e wf ⟨rfl, hbf⟩
                      have HFX := Lib.hid ((HL6.out.fix).mono hbf)
                      have HBF := Lib.hid (below_tr (HL6.out.below) hbf)
                      have d0 := ((HFX.out).rcell 0 (.int .i64 0) rfl).1
                      have u0 := ((HFX.out).rcell 0 (.int .i64 0) rfl).2
                      have d1 := ((HFX.out).rcell 1 (.int .i64 0) rfl).1
                      have u1 := ((HFX.out).rcell 1 (.int .i64 0) rfl).2
                      have d2 := ((HFX.out).rcell 2 (.int .i64 0) rfl).1
                      have u2 := ((HFX.out).rcell 2 (.int .i64 0) rfl).2
                      have d3 := ((HFX.out).rcell 3 (.int .i64 0) rfl).1
                      have u3 := ((HFX.out).rcell 3 (.int .i64 0) rfl).2
                      have d4 := ((HFX.out).rcell 4 (.int .i64 0) rfl).1
                      have u4 := ((HFX.out).rcell 4 (.int .i64 0) rfl).2
                      have d5 := ((HFX.out).rcell 5 (.int .i64 0) rfl).1
                      have u5 := ((HFX.out).rcell 5 (.int .i64 0) rfl).2
                      have d6 := ((HFX.out).rcell 6 (.int .i64 0) rfl).1
                      have u6 := ((HFX.out).rcell 6 (.int .i64 0) rfl).2
                      have d7 := ((HFX.out).rcell 7 (.int .i64 0) rfl).1
                      have u7 := ((HFX.out).rcell 7 (.int .i64 0) rfl).2
                      have d8 := ((HFX.out).rcell 8 (.slice none 0 0) rfl).1
                      have u8 := ((HFX.out).rcell 8 (.slice none 0 0) rfl).2
                      have d9 := ((HFX.out).rcell 9 (.int .i64 0) rfl).1
                      have u9 := ((HFX.out).rcell 9 (.int .i64 0) rfl).2
                      have d10 := ((HFX.out).rcell 10 (.slice none 0 0) rfl).1
                      have u10 := ((HFX.out).rcell 10 (.slice none 0 0) rfl).2
                      go_wp2_with fail
                      refine bodyPost_ret (results_cell_tmp2_row rfl _ _ (w.heap.size + 1) _ (plCells zeroP nilV nilV) (0, 0) (.struct fs) rfl (plan_ret zeroP nilV nilV (HFX.out)) hu rfl plan_info2) rfl ?_
                      exact plan_zero (HRUN2.out) (by (repeat (with_reducible refine ext_setCell ?_ (by show w.heap.size ≤ w.heap.size + 1; omega) _)); exact HBF.out)
                    · obtain ⟨y, ys, hws⟩ : ∃ y ys, wordsB a2 = y :: ys := by
                        cases hc : wordsB a2 with
                        | nil => have := wordsB_pos a2; rw [hc] at this; simp at this
                        | cons y ys => exact ⟨y, ys, rfl⟩
                      have hbytes := wordsB_bytes a2
                      have hzs := wordsB_size a2
                      rw [hws] at he hsl hbytes hzs
                      simp only [List.length_cons] at he hsl
                      subst he
                      have hzz : ∀ q ∈ ys, q.size < 4294967281 := fun q hq => by
                        have h1 := hzs q (by simp [hq])
                        have h3 := HLS.out
                        omega
                      have hlz := HLS.out
                      have HL6 := Lib.hid (hl2.out.next (at' := at_ + a2.length + 1) (no' := no + 1) hk hia hin (by omega) (by have := hl2.out.hno; omega))
                      have HCUT := Lib.hid (And.intro hcut hd)
                      have HLE := Lib.hid hl
                      have hyz : w4.cell? ⟨g2, 0, none⟩ = some (.string y) := by
                        obtain ⟨A, c, hv, hsl', _⟩ := hsl
                        injection hv with hv1 _ _
                        subst hv1
                        obtain ⟨b', o', hbo, _, _, u, ⟨hu, _⟩, hcell⟩ := sl_tail hsl'
                        injection hbo with hbo
                        injection hbo with q1 q2
                        subst q1 q2
                        injection hu with hu
                        subst hu
                        exact hcell
                      have k8 : w4.cell? ⟨w1.heap.size + 1, 8, none⟩ = some (.slice Ai p.inputs.length ci) := (HL6.out.plan.cell 8 _ rfl).1
                      have k10 : w4.cell? ⟨w1.heap.size + 1, 10, none⟩ = some (.slice Aa p.acts.length ca) := (HL6.out.plan.cell 10 _ rfl).1
                      have hws' : wordsL 32 a2 = (y :: ys).map bytesL := hbytes.symm
                      have HWS := Lib.hid hws'
                      have HSL := Lib.hid hsl
                      have HMZ2 := Lib.hid (at_of HL6.out.iat)
                      have hle1 : at_ + a2.length + 1 ≤ s.size := by omega
                      have hno1 := HL6.out.hno
                      clear hcut hd hk hia hin hbytes hws hl hlz hzs hsl hl2 hws'
                      by_cases hsrc : p.acts.length = 0 ∧ bytesL y = srcWord ∧ p.inputs.length < 4
                      · obtain ⟨hA, hS, hI⟩ := hsrc
                        have hAb : ((p.acts.length : Int) == 0) = true := by rw [beq_iff_eq]; omega
                        have HSR := Lib.hid (source_read (wordsL 32 a2) y ys _ w4 HSL.out (h.mono HL6.out.below) hzz hS HWS)
                        have hSL : SrcLine (wordsL 32 a2) p := ⟨List.length_eq_zero_iff.1 hA, ⟨ys.map bytesL, by rw [HWS.out, List.map_cons, hS]⟩, hI⟩
                        have hW : wordsL 32 a2 = srcWord :: ys.map bytesL := by rw [HWS.out, List.map_cons, hS]
                        have HSLN := Lib.hid (And.intro hSL hW)
                        obtain rfl : y = ByteArray.mk #[115, 111, 117, 114, 99, 101] := ba_ext hS
                        clear hA hS hSL hW hzz
                        go_wp2_with (go_at_call 18; (with_reducible refine HSR.out.mono ?_))
                        rintro e w5 ⟨ve, bo, es, rfl, hb3, hrow, hewf, hpost⟩
                        obtain ⟨Ae, ce, rfl⟩ := row_val hrow
                        have HPO := Lib.hid hpost
                        have HL7 := Lib.hid (HL6.out.mono hb3)
                        have HROW := Lib.hid (And.intro hrow hewf)
                        have j6 : w5.cell? ⟨w.heap.size + 1 + 1 + 1, 0, none⟩ = some (.int .i64 (((no + 1 : Nat) : Int))) := HL7.out.ino.cell.1
                        have k8b : w5.cell? ⟨w1.heap.size + 1, 8, none⟩ = some (.slice Ai p.inputs.length ci) := (HL7.out.plan.cell 8 _ rfl).1
                        have hz5 := hb3.size
                        have hz6 := HL6.out.below.size
                        clear hpost hb3 hrow hewf k8 k10 hyz
                        cases bo
                        · have HRUN2 := Lib.hid (hrun.out _ _ _ (ScrRun.srcBad no _ a2 b2 p _ HCUT.out.1 HSLN.out.2 HSLN.out.1 (fun es' hes => by
                            rcases HPO.out with ⟨h', _⟩ | ⟨_, h'⟩
                            · cases h'
                            · exact h' _ es' HSLN.out.2 hes)))
                          clear k8b
                          go_wp2_with ((with_reducible refine (fail_lit _ _).mono ?_))
                          rintro e wf ⟨rfl, hbf⟩
                          have HFX := Lib.hid ((HL7.out.fix).mono hbf)
                          have HBF := Lib.hid (below_tr (HL7.out.below) hbf)
                          have d0 := ((HFX.out).rcell 0 (.int .i64 0) rfl).1
                          have u0 := ((HFX.out).rcell 0 (.int .i64 0) rfl).2
                          have d1 := ((HFX.out).rcell 1 (.int .i64 0) rfl).1
                          have u1 := ((HFX.out).rcell 1 (.int .i64 0) rfl).2
                          have d2 := ((HFX.out).rcell 2 (.int .i64 0) rfl).1
                          have u2 := ((HFX.out).rcell 2 (.int .i64 0) rfl).2
                          have d3 := ((HFX.out).rcell 3 (.int .i64 0) rfl).1
                          have u3 := ((HFX.out).rcell 3 (.int .i64 0) rfl).2
                          have d4 := ((HFX.out).rcell 4 (.int .i64 0) rfl).1
                          have u4 := ((HFX.out).rcell 4 (.int .i64 0) rfl).2
                          have d5 := ((HFX.out).rcell 5 (.int .i64 0) rfl).1
                          have u5 := ((HFX.out).rcell 5 (.int .i64 0) rfl).2
                          have d6 := ((HFX.out).rcell 6 (.int .i64 0) rfl).1
                          have u6 := ((HFX.out).rcell 6 (.int .i64 0) rfl).2
                          have d7 := ((HFX.out).rcell 7 (.int .i64 0) rfl).1
                          have u7 := ((HFX.out).rcell 7 (.int .i64 0) rfl).2
                          have d8 := ((HFX.out).rcell 8 (.slice none 0 0) rfl).1
                          have u8 := ((HFX.out).rcell 8 (.slice none 0 0) rfl).2
                          have d9 := ((HFX.out).rcell 9 (.int .i64 0) rfl).1
                          have u9 := ((HFX.out).rcell 9 (.int .i64 0) rfl).2
                          have d10 := ((HFX.out).rcell 10 (.slice none 0 0) rfl).1
                          have u10 := ((HFX.out).rcell 10 (.slice none 0 0) rfl).2
                          go_wp2_with fail
                          refine bodyPost_ret (results_cell_tmp2_row rfl _ _ (w.heap.size + 1) _ (plCells zeroP nilV nilV) (0, 0) (.struct fs) rfl (plan_ret zeroP nilV nilV (HFX.out)) hu rfl plan_info2) rfl ?_
                          exact plan_zero (HRUN2.out) (by (repeat (with_reducible refine ext_setCell ?_ (by show w.heap.size ≤ w.heap.size + 1; omega) _)); exact HBF.out)
                        · have HSI : Hid (SrcIs (ys.map bytesL) es) := Lib.hid (by
                            rcases HPO.out with ⟨_, xs', e', h'⟩ | ⟨h', _⟩
                            · rw [HSLN.out.2] at e'
                              injection e' with _ e'
                              rw [e']; exact h'
                            · cases h')
                          have HRUN2 := Lib.hid (fun x' e' k' hr => hrun.out x' e' k' (ScrRun.src no _ a2 b2 p x' _ es e' k' HCUT.out.1 HSLN.out.2 HSLN.out.1 HSI.out hr))
                          obtain ⟨vs, hr, hvs⟩ := HL7.out.ins
                          have HVS := Lib.hid (And.intro hr hvs)
                          obtain ⟨i0, hi, hz0, hz1, hz2⟩ := info_parts evs_info
                          clear hr hvs hrun
                          go_wp2_with (at_builtin; refine wpList_append_own _ rfl _ _ 24 rfl w.heap.size 48 i0 (.slice none 0 0) 1 24 Tryz.underlying24 hi hz0 hz1 hz2 rfl (by decide) _ _ _ rfl (row_belowK HVS.out.1 (ext_alloc (Below.refl _ _) _)) ⟨w5.heap.size, 0, none⟩ 1 1 [.slice Ae es.length ce] rfl rfl (news_alloc w5 [.slice Ae es.length ce] 48 rfl) (one_cell (slice_one HROW.out.1)) (by unfold maxLen; omega) (by omega) (by simp; omega) ?_)
                          intro v' w6 hown' hgrow _
                          obtain ⟨A', c', rfl⟩ := row_val hown'
                          have hb6 : Below w5.heap.size w5 (w5.alloc (.cells #[.slice Ae es.length ce] 48)) := ext_alloc (Below.refl _ _) _
                          have hL8 := HL7.out.mono hb6
                          have HL9 := Lib.hid (hL8.more_in (es := es) (vs := vs) ⟨row_belowK (row_lower HROW.out.1 (by omega)) hb6, HROW.out.2⟩ (row_belowK HVS.out.1 hb6) (HVS.out.2.imp fun v es hv => ⟨row_belowK hv.1 hb6, hv.2⟩) hown' hgrow)
                          have hpl := hL8.plan_in (row_belowK HVS.out.1 hb6) (by decide) hgrow
                          have k8c : w6.cell? ⟨w1.heap.size + 1, 8, none⟩ = some (.slice Ai p.inputs.length ci) := (hpl.cell 8 _ rfl).1
                          have f8c : w6.frozen? ⟨w1.heap.size + 1, 8, none⟩ = false := (hpl.cell 8 _ rfl).2
                          have HMZ3 := Lib.hid (at_of HL9.out.iat)
                          clear hb6 hL8 hpl hown' hgrow k8b
                          go_wp2_with fail
                          go_roundw
                          case rel => exact ⟨_, _, _, _, _, HL9, by simp; omega, hpa, hle1, by omega, Lib.hid (by rw [HCUT.out.2]; exact HRUN2.out)⟩
                          case measure => rw [HMZ3.out, HMZ.out]; omega
                      · have HNS : Hid (¬ SrcLine (wordsL 32 a2) p) := Lib.hid (fun hc => hsrc ⟨by rw [hc.1]; rfl, by
                          obtain ⟨xs', e'⟩ := hc.2.1
                          rw [HWS.out, List.map_cons] at e'
                          injection e', hc.2.2⟩)
                        have HAR := Lib.hid (act_read (wordsL 32 a2) y ys _ w4 HSL.out (h.mono HL6.out.below) hzz HWS)
                        have hcases : ((p.acts.length : Int) == 0) = false ∨ (((p.acts.length : Int) == 0) = true ∧ (y.toList == [115, 111, 117, 114, 99, 101]) = false) ∨ (((p.acts.length : Int) == 0) = true ∧ (y.toList == [115, 111, 117, 114, 99, 101]) = true ∧ ¬ p.inputs.length < 4) := by
                          by_cases h1 : p.acts.length = 0
                          · right
                            have e1 : ((p.acts.length : Int) == 0) = true := by rw [beq_iff_eq]; omega
                            by_cases h2 : bytesL y = srcWord
                            · right
                              exact ⟨e1, by rw [ByteArray.toList_eq, beq_iff_eq]; exact h2, fun h3 => hsrc ⟨h1, h2, h3⟩⟩
                            · exact .inl ⟨e1, by rw [ByteArray.toList_eq, beq_eq_false_iff_ne]; exact h2⟩
                          · exact .inl (by rw [beq_eq_false_iff_ne]; omega)
                        clear hsrc hzz
                        rcases hcases with hAb | ⟨hAb, hSb⟩ | ⟨hAb, hSb, hIb⟩
                        all_goals
                          go_wp2_with (go_at_call 19; (with_reducible refine HAR.out.mono ?_))
                          rintro e w5 ⟨c, bo, rfl, hcw, hb3, hpost⟩
                          have HPO := Lib.hid hpost
                          have HL7 := Lib.hid (HL6.out.mono hb3)
                          have HCW := Lib.hid hcw
                          have hz5 := hb3.size
                          have hz6 : (w1.heap.size + 1) < w5.heap.size := (Array.getElem?_eq_some_iff.1 HL7.out.plan).1
                          have hz7 : (w1.heap.size + 1) ≠ w5.heap.size := by omega
                          have hz8 : w.heap.size + 1 + 1 + 1 < w5.heap.size := HL7.out.ino.lt
                          have hz9 : w.heap.size + 1 + 1 + 1 ≠ w5.heap.size := by omega
                          have j6 : w5.cell? ⟨w.heap.size + 1 + 1 + 1, 0, none⟩ = some (.int .i64 (((no + 1 : Nat) : Int))) := HL7.out.ino.cell.1
                          have k8b : w5.cell? ⟨w1.heap.size + 1, 8, none⟩ = some (.slice Ai p.inputs.length ci) := (HL7.out.plan.cell 8 _ rfl).1
                          have k10b : w5.cell? ⟨w1.heap.size + 1, 10, none⟩ = some (.slice Aa p.acts.length ca) := (HL7.out.plan.cell 10 _ rfl).1
                          have hbA : Below w5.heap.size w5 (w5.alloc (.cells #[.int .i64 c.what, .int .i64 c.who, .int .i64 c.which] 52)) := ext_alloc (Below.refl _ _) _
                          have HL8 := Lib.hid (HL7.out.mono hbA)
                          clear hpost hb3 k8 k10 hyz hcw hbA
                          cases bo
                          · have HRUN2 := Lib.hid (hrun.out _ _ _ (ScrRun.actBad no _ a2 b2 p HCUT.out.1 HNS.out (.inl fun c' hc => by
                              rcases HPO.out with ⟨h', _⟩ | ⟨_, h'⟩
                              · cases h'
                              · exact h' _ hc)))
                            go_wp2_with ((with_reducible refine (fail_lit _ _).mono ?_))
                            rintro e wf ⟨rfl, hbf⟩
                            have HFX := Lib.hid ((HL8.out.fix).mono hbf)
                            have HBF := Lib.hid (below_tr (HL8.out.below) hbf)
                            have d0 := ((HFX.out).rcell 0 (.int .i64 0) rfl).1
                            have u0 := ((HFX.out).rcell 0 (.int .i64 0) rfl).2
                            have d1 := ((HFX.out).rcell 1 (.int .i64 0) rfl).1
                            have u1 := ((HFX.out).rcell 1 (.int .i64 0) rfl).2
                            have d2 := ((HFX.out).rcell 2 (.int .i64 0) rfl).1
                            have u2 := ((HFX.out).rcell 2 (.int .i64 0) rfl).2
                            have d3 := ((HFX.out).rcell 3 (.int .i64 0) rfl).1
                            have u3 := ((HFX.out).rcell 3 (.int .i64 0) rfl).2
                            have d4 := ((HFX.out).rcell 4 (.int .i64 0) rfl).1
                            have u4 := ((HFX.out).rcell 4 (.int .i64 0) rfl).2
                            have d5 := ((HFX.out).rcell 5 (.int .i64 0) rfl).1
                            have u5 := ((HFX.out).rcell 5 (.int .i64 0) rfl).2
                            have d6 := ((HFX.out).rcell 6 (.int .i64 0) rfl).1
                            have u6 := ((HFX.out).rcell 6 (.int .i64 0) rfl).2
                            have d7 := ((HFX.out).rcell 7 (.int .i64 0) rfl).1
                            have u7 := ((HFX.out).rcell 7 (.int .i64 0) rfl).2
                            have d8 := ((HFX.out).rcell 8 (.slice none 0 0) rfl).1
                            have u8 := ((HFX.out).rcell 8 (.slice none 0 0) rfl).2
                            have d9 := ((HFX.out).rcell 9 (.int .i64 0) rfl).1
                            have u9 := ((HFX.out).rcell 9 (.int .i64 0) rfl).2
                            have d10 := ((HFX.out).rcell 10 (.slice none 0 0) rfl).1
                            have u10 := ((HFX.out).rcell 10 (.slice none 0 0) rfl).2
                            go_wp2_with fail
                            refine bodyPost_ret (results_cell_tmp2_row rfl _ _ (w.heap.size + 1) _ (plCells zeroP nilV nilV) (0, 0) (.struct fs) rfl (plan_ret zeroP nilV nilV (HFX.out)) hu rfl plan_info2) rfl ?_
                            exact plan_zero (HRUN2.out) (by (repeat (with_reducible refine ext_setCell ?_ (by show w.heap.size ≤ w.heap.size + 1; omega) _)); exact HBF.out)
                          · have HAI : Hid (ActIs (wordsL 32 a2) c) := Lib.hid (by
                              rcases HPO.out with ⟨_, h'⟩ | ⟨h', _⟩
                              · exact h'
                              · cases h')
                            by_cases hi0 : p.inputs.length = 0
                            · have hib : ((p.inputs.length : Int) == 0) = true := by rw [beq_iff_eq]; omega
                              have HRUN2 := Lib.hid (hrun.out _ _ _ (ScrRun.actBad no _ a2 b2 p HCUT.out.1 HNS.out (.inr (.inl (List.length_eq_zero_iff.1 hi0)))))
                              clear hi0
                              go_wp2_with ((with_reducible refine (fail_lit _ _).mono ?_))
                              rintro e wf ⟨rfl, hbf⟩
                              have HFX := Lib.hid ((HL8.out.fix).mono hbf)
                              have HBF := Lib.hid (below_tr (HL8.out.below) hbf)
                              have d0 := ((HFX.out).rcell 0 (.int .i64 0) rfl).1
                              have u0 := ((HFX.out).rcell 0 (.int .i64 0) rfl).2
                              have d1 := ((HFX.out).rcell 1 (.int .i64 0) rfl).1
                              have u1 := ((HFX.out).rcell 1 (.int .i64 0) rfl).2
                              have d2 := ((HFX.out).rcell 2 (.int .i64 0) rfl).1
                              have u2 := ((HFX.out).rcell 2 (.int .i64 0) rfl).2
                              have d3 := ((HFX.out).rcell 3 (.int .i64 0) rfl).1
                              have u3 := ((HFX.out).rcell 3 (.int .i64 0) rfl).2
                              have d4 := ((HFX.out).rcell 4 (.int .i64 0) rfl).1
                              have u4 := ((HFX.out).rcell 4 (.int .i64 0) rfl).2
                              have d5 := ((HFX.out).rcell 5 (.int .i64 0) rfl).1
                              have u5 := ((HFX.out).rcell 5 (.int .i64 0) rfl).2
                              have d6 := ((HFX.out).rcell 6 (.int .i64 0) rfl).1
                              have u6 := ((HFX.out).rcell 6 (.int .i64 0) rfl).2
                              have d7 := ((HFX.out).rcell 7 (.int .i64 0) rfl).1
                              have u7 := ((HFX.out).rcell 7 (.int .i64 0) rfl).2
                              have d8 := ((HFX.out).rcell 8 (.slice none 0 0) rfl).1
                              have u8 := ((HFX.out).rcell 8 (.slice none 0 0) rfl).2
                              have d9 := ((HFX.out).rcell 9 (.int .i64 0) rfl).1
                              have u9 := ((HFX.out).rcell 9 (.int .i64 0) rfl).2
                              have d10 := ((HFX.out).rcell 10 (.slice none 0 0) rfl).1
                              have u10 := ((HFX.out).rcell 10 (.slice none 0 0) rfl).2
                              go_wp2_with fail
                              refine bodyPost_ret (results_cell_tmp2_row rfl _ _ (w.heap.size + 1) _ (plCells zeroP nilV nilV) (0, 0) (.struct fs) rfl (plan_ret zeroP nilV nilV (HFX.out)) hu rfl plan_info2) rfl ?_
                              exact plan_zero (HRUN2.out) (by (repeat (with_reducible refine ext_setCell ?_ (by show w.heap.size ≤ w.heap.size + 1; omega) _)); exact HBF.out)
                            · have hib : ((p.inputs.length : Int) == 0) = false := by rw [beq_eq_false_iff_ne]; omega
                              by_cases ha4 : 400 ≤ p.acts.length
                              · have HRUN2 := Lib.hid (hrun.out _ _ _ (ScrRun.actBad no _ a2 b2 p HCUT.out.1 HNS.out (.inr (.inr (by omega)))))
                                go_wp2_with ((with_reducible refine (fail_lit _ _).mono ?_))
                                rintro e wf ⟨rfl, hbf⟩
                                have HFX := Lib.hid ((HL8.out.fix).mono hbf)
                                have HBF := Lib.hid (below_tr (HL8.out.below) hbf)
                                have d0 := ((HFX.out).rcell 0 (.int .i64 0) rfl).1
                                have u0 := ((HFX.out).rcell 0 (.int .i64 0) rfl).2
                                have d1 := ((HFX.out).rcell 1 (.int .i64 0) rfl).1
                                have u1 := ((HFX.out).rcell 1 (.int .i64 0) rfl).2
                                have d2 := ((HFX.out).rcell 2 (.int .i64 0) rfl).1
                                have u2 := ((HFX.out).rcell 2 (.int .i64 0) rfl).2
                                have d3 := ((HFX.out).rcell 3 (.int .i64 0) rfl).1
                                have u3 := ((HFX.out).rcell 3 (.int .i64 0) rfl).2
                                have d4 := ((HFX.out).rcell 4 (.int .i64 0) rfl).1
                                have u4 := ((HFX.out).rcell 4 (.int .i64 0) rfl).2
                                have d5 := ((HFX.out).rcell 5 (.int .i64 0) rfl).1
                                have u5 := ((HFX.out).rcell 5 (.int .i64 0) rfl).2
                                have d6 := ((HFX.out).rcell 6 (.int .i64 0) rfl).1
                                have u6 := ((HFX.out).rcell 6 (.int .i64 0) rfl).2
                                have d7 := ((HFX.out).rcell 7 (.int .i64 0) rfl).1
                                have u7 := ((HFX.out).rcell 7 (.int .i64 0) rfl).2
                                have d8 := ((HFX.out).rcell 8 (.slice none 0 0) rfl).1
                                have u8 := ((HFX.out).rcell 8 (.slice none 0 0) rfl).2
                                have d9 := ((HFX.out).rcell 9 (.int .i64 0) rfl).1
                                have u9 := ((HFX.out).rcell 9 (.int .i64 0) rfl).2
                                have d10 := ((HFX.out).rcell 10 (.slice none 0 0) rfl).1
                                have u10 := ((HFX.out).rcell 10 (.slice none 0 0) rfl).2
                                go_wp2_with fail
                                refine bodyPost_ret (results_cell_tmp2_row rfl _ _ (w.heap.size + 1) _ (plCells zeroP nilV nilV) (0, 0) (.struct fs) rfl (plan_ret zeroP nilV nilV (HFX.out)) hu rfl plan_info2) rfl ?_
                                exact plan_zero (HRUN2.out) (by (repeat (with_reducible refine ext_setCell ?_ (by show w.heap.size ≤ w.heap.size + 1; omega) _)); exact HBF.out)
                              · have HRUN2 := Lib.hid (fun x' e' k' hr => hrun.out x' e' k' (ScrRun.act no _ a2 b2 p x' c e' k' HCUT.out.1 HNS.out HAI.out (fun e => hi0 (by rw [e]; rfl)) (by omega) hr))
                                obtain ⟨i0, hi, hz0, hz1, hz2⟩ := info_parts acts_info
                                clear hrun
                                go_wp2_with (at_builtin; refine wpList_append_own _ rfl _ _ 25 rfl w.heap.size 52 i0 (.agg #[.int .i64 0, .int .i64 0, .int .i64 0]) 3 24 Tryz.underlying25 hi hz0 hz1 hz2 rfl (by decide) _ _ _ rfl (row_belowK HL7.out.acts.1 (ext_alloc (ext_alloc (Below.refl _ _) _) _)) ⟨w5.heap.size + 1, 0, none⟩ 1 1 c.cells3 rfl rfl (news_alloc _ c.cells3 52 (by simp)) (cells3_one c) (by unfold maxLen; omega) (by omega) (by simp; omega) ?_)
                                intro v' w6 hown' hgrow _
                                obtain ⟨A', c', rfl⟩ := row_val hown'
                                have hL9 := HL8.out.mono (ext_alloc (Below.refl _ _) (.cells #[.int .i64 c.what, .int .i64 c.who, .int .i64 c.which] 52))
                                have HL9 := Lib.hid (hL9.more_act HCW.out hown' hgrow)
                                have hpl := hL9.plan_in hL9.acts.1 (by decide) hgrow
                                have k10c : w6.cell? ⟨w1.heap.size + 1, 10, none⟩ = some (.slice Aa p.acts.length ca) := (hpl.cell 10 _ rfl).1
                                have f10c : w6.frozen? ⟨w1.heap.size + 1, 10, none⟩ = false := (hpl.cell 10 _ rfl).2
                                have HMZ3 := Lib.hid (at_of HL9.out.iat)
                                clear hL9 hpl hown' hgrow k8b k10b
                                go_wp2_with fail
                                go_roundw
                                case rel => exact ⟨_, _, _, _, _, HL9, hpi, by simp; omega, hle1, by omega, Lib.hid (by rw [HCUT.out.2]; exact HRUN2.out)⟩
                                case measure => rw [HMZ3.out, HMZ.out]; omega
                  · have hend : L.drop at_ = [] := by
                      have h2 := HLS.out
                      exact List.drop_eq_nil_of_le (by omega)
                    have HEND := Lib.hid hend
                    have k8 : wr.cell? ⟨w1.heap.size + 1, 8, none⟩ = some (.slice Ai p.inputs.length ci) := (hl2.out.plan.cell 8 _ rfl).1
                    have j6 : wr.cell? ⟨w.heap.size + 1 + 1 + 1, 0, none⟩ = some (.int .i64 no) := hl2.out.ino.cell.1
                    clear hend HNX
                    by_cases hi0 : p.inputs.length = 0
                    · have hib : ((p.inputs.length : Int) == 0) = true := by rw [beq_iff_eq]; omega
                      have HRUN2 := Lib.hid (hrun.out _ _ _ (by rw [HEND.out]; exact ScrRun.none no p (List.length_eq_zero_iff.1 hi0)))
                      clear hi0
                      go_wp2_with ((with_reducible refine (fail_lit _ _).mono ?_))
                      rintro e wf ⟨rfl, hbf⟩
                      have HFX := Lib.hid ((hl2.out.fix).mono hbf)
                      have HBF := Lib.hid (below_tr (hl2.out.below) hbf)
                      have d0 := ((HFX.out).rcell 0 (.int .i64 0) rfl).1
                      have u0 := ((HFX.out).rcell 0 (.int .i64 0) rfl).2
                      have d1 := ((HFX.out).rcell 1 (.int .i64 0) rfl).1
                      have u1 := ((HFX.out).rcell 1 (.int .i64 0) rfl).2
                      have d2 := ((HFX.out).rcell 2 (.int .i64 0) rfl).1
                      have u2 := ((HFX.out).rcell 2 (.int .i64 0) rfl).2
                      have d3 := ((HFX.out).rcell 3 (.int .i64 0) rfl).1
                      have u3 := ((HFX.out).rcell 3 (.int .i64 0) rfl).2
                      have d4 := ((HFX.out).rcell 4 (.int .i64 0) rfl).1
                      have u4 := ((HFX.out).rcell 4 (.int .i64 0) rfl).2
                      have d5 := ((HFX.out).rcell 5 (.int .i64 0) rfl).1
                      have u5 := ((HFX.out).rcell 5 (.int .i64 0) rfl).2
                      have d6 := ((HFX.out).rcell 6 (.int .i64 0) rfl).1
                      have u6 := ((HFX.out).rcell 6 (.int .i64 0) rfl).2
                      have d7 := ((HFX.out).rcell 7 (.int .i64 0) rfl).1
                      have u7 := ((HFX.out).rcell 7 (.int .i64 0) rfl).2
                      have d8 := ((HFX.out).rcell 8 (.slice none 0 0) rfl).1
                      have u8 := ((HFX.out).rcell 8 (.slice none 0 0) rfl).2
                      have d9 := ((HFX.out).rcell 9 (.int .i64 0) rfl).1
                      have u9 := ((HFX.out).rcell 9 (.int .i64 0) rfl).2
                      have d10 := ((HFX.out).rcell 10 (.slice none 0 0) rfl).1
                      have u10 := ((HFX.out).rcell 10 (.slice none 0 0) rfl).2
                      go_wp2_with fail
                      refine bodyPost_ret (results_cell_tmp2_row rfl _ _ (w.heap.size + 1) _ (plCells zeroP nilV nilV) (0, 0) (.struct fs) rfl (plan_ret zeroP nilV nilV (HFX.out)) hu rfl plan_info2) rfl ?_
                      exact plan_zero (HRUN2.out) (by (repeat (with_reducible refine ext_setCell ?_ (by show w.heap.size ≤ w.heap.size + 1; omega) _)); exact HBF.out)
                    · have hib : ((p.inputs.length : Int) == 0) = false := by rw [beq_eq_false_iff_ne]; omega
                      have HRUN2 := Lib.hid (hrun.out _ _ _ (by rw [HEND.out]; exact ScrRun.fin no p (fun e => hi0 (by rw [e]; rfl))))
                      clear hi0 hrun
                      have q0 : wr.cell? ⟨w1.heap.size + 1, 0, none⟩ = some (.int .i64 p.job.groups) := (hl2.out.plan.cell 0 _ rfl).1
                      have q1 : wr.cell? ⟨w1.heap.size + 1, 1, none⟩ = some (.int .i64 p.job.size) := (hl2.out.plan.cell 1 _ rfl).1
                      have q2 : wr.cell? ⟨w1.heap.size + 1, 2, none⟩ = some (.int .i64 p.job.slide) := (hl2.out.plan.cell 2 _ rfl).1
                      have q3 : wr.cell? ⟨w1.heap.size + 1, 3, none⟩ = some (.int .i64 p.job.fold) := (hl2.out.plan.cell 3 _ rfl).1
                      have q4 : wr.cell? ⟨w1.heap.size + 1, 4, none⟩ = some (.int .i64 p.job.fuel) := (hl2.out.plan.cell 4 _ rfl).1
                      have q5 : wr.cell? ⟨w1.heap.size + 1, 5, none⟩ = some (.int .i64 p.job.limit) := (hl2.out.plan.cell 5 _ rfl).1
                      have q6 : wr.cell? ⟨w1.heap.size + 1, 6, none⟩ = some (.int .i64 p.job.delay) := (hl2.out.plan.cell 6 _ rfl).1
                      have q7 : wr.cell? ⟨w1.heap.size + 1, 7, none⟩ = some (.int .i64 p.job.idle) := (hl2.out.plan.cell 7 _ rfl).1
                      have q9 : wr.cell? ⟨w1.heap.size + 1, 9, none⟩ = some (.int .i64 p.workers) := (hl2.out.plan.cell 9 _ rfl).1
                      have q10 : wr.cell? ⟨w1.heap.size + 1, 10, none⟩ = some (.slice Aa p.acts.length ca) := (hl2.out.plan.cell 10 _ rfl).1
                      have hne : (w1.heap.size + 1) ≠ w.heap.size + 1 := by have := hl2.out.hbp; omega
                      have d0 := ((hl2.out.fix).rcell 0 (.int .i64 0) rfl).1
                      have u0 := ((hl2.out.fix).rcell 0 (.int .i64 0) rfl).2
                      have d1 := ((hl2.out.fix).rcell 1 (.int .i64 0) rfl).1
                      have u1 := ((hl2.out.fix).rcell 1 (.int .i64 0) rfl).2
                      have d2 := ((hl2.out.fix).rcell 2 (.int .i64 0) rfl).1
                      have u2 := ((hl2.out.fix).rcell 2 (.int .i64 0) rfl).2
                      have d3 := ((hl2.out.fix).rcell 3 (.int .i64 0) rfl).1
                      have u3 := ((hl2.out.fix).rcell 3 (.int .i64 0) rfl).2
                      have d4 := ((hl2.out.fix).rcell 4 (.int .i64 0) rfl).1
                      have u4 := ((hl2.out.fix).rcell 4 (.int .i64 0) rfl).2
                      have d5 := ((hl2.out.fix).rcell 5 (.int .i64 0) rfl).1
                      have u5 := ((hl2.out.fix).rcell 5 (.int .i64 0) rfl).2
                      have d6 := ((hl2.out.fix).rcell 6 (.int .i64 0) rfl).1
                      have u6 := ((hl2.out.fix).rcell 6 (.int .i64 0) rfl).2
                      have d7 := ((hl2.out.fix).rcell 7 (.int .i64 0) rfl).1
                      have u7 := ((hl2.out.fix).rcell 7 (.int .i64 0) rfl).2
                      have d8 := ((hl2.out.fix).rcell 8 (.slice none 0 0) rfl).1
                      have u8 := ((hl2.out.fix).rcell 8 (.slice none 0 0) rfl).2
                      have d9 := ((hl2.out.fix).rcell 9 (.int .i64 0) rfl).1
                      have u9 := ((hl2.out.fix).rcell 9 (.int .i64 0) rfl).2
                      have d10 := ((hl2.out.fix).rcell 10 (.slice none 0 0) rfl).1
                      have u10 := ((hl2.out.fix).rcell 10 (.slice none 0 0) rfl).2
                      go_wp2_with fail
                      refine bodyPost_ret (results_cell_tmp2_row rfl _ _ (w.heap.size + 1) _ (plCells p (.slice Ai p.inputs.length ci) (.slice Aa p.acts.length ca)) (0, 0) (.struct fs) rfl (plan_ret p _ _ hl2.out.fix) hu rfl plan_info2) rfl ?_
                      exact plan_end hl2.out HRUN2.out
          · have hyb : (y.toList == [119, 111, 114, 107, 101, 114, 115]) = false := by rw [ByteArray.toList_eq, beq_eq_false_iff_ne]; exact hy
            have HRUN := Lib.hid (PlanRun.seven L _ _ x n HH.out.1 HJR.out (fun a' b' m' hc hw => by
                obtain ⟨rfl, rfl⟩ := HCUT.out.1.eq hc
                obtain ⟨x', ex, _⟩ := hw
                rw [← HBY.out] at ex
                injection ex with ex _
                exact hy ex))
            clear hy
            go_wp2_with ((with_reducible refine (fail_lit 7 _).mono ?_))
            rintro e wf ⟨rfl, hbf⟩
            have HFX := Lib.hid ((HL3.out.fix).mono hbf)
            have HBF := Lib.hid (below_tr (HL3.out.below) hbf)
            have d0 := ((HFX.out).rcell 0 (.int .i64 0) rfl).1
            have u0 := ((HFX.out).rcell 0 (.int .i64 0) rfl).2
            have d1 := ((HFX.out).rcell 1 (.int .i64 0) rfl).1
            have u1 := ((HFX.out).rcell 1 (.int .i64 0) rfl).2
            have d2 := ((HFX.out).rcell 2 (.int .i64 0) rfl).1
            have u2 := ((HFX.out).rcell 2 (.int .i64 0) rfl).2
            have d3 := ((HFX.out).rcell 3 (.int .i64 0) rfl).1
            have u3 := ((HFX.out).rcell 3 (.int .i64 0) rfl).2
            have d4 := ((HFX.out).rcell 4 (.int .i64 0) rfl).1
            have u4 := ((HFX.out).rcell 4 (.int .i64 0) rfl).2
            have d5 := ((HFX.out).rcell 5 (.int .i64 0) rfl).1
            have u5 := ((HFX.out).rcell 5 (.int .i64 0) rfl).2
            have d6 := ((HFX.out).rcell 6 (.int .i64 0) rfl).1
            have u6 := ((HFX.out).rcell 6 (.int .i64 0) rfl).2
            have d7 := ((HFX.out).rcell 7 (.int .i64 0) rfl).1
            have u7 := ((HFX.out).rcell 7 (.int .i64 0) rfl).2
            have d8 := ((HFX.out).rcell 8 (.slice none 0 0) rfl).1
            have u8 := ((HFX.out).rcell 8 (.slice none 0 0) rfl).2
            have d9 := ((HFX.out).rcell 9 (.int .i64 0) rfl).1
            have u9 := ((HFX.out).rcell 9 (.int .i64 0) rfl).2
            have d10 := ((HFX.out).rcell 10 (.slice none 0 0) rfl).1
            have u10 := ((HFX.out).rcell 10 (.slice none 0 0) rfl).2
            go_wp2_with fail
            refine bodyPost_ret (results_cell_tmp2_row rfl _ _ (w.heap.size + 1) _ (plCells zeroP nilV nilV) (0, 0) (.struct fs) rfl (plan_ret zeroP nilV nilV (HFX.out)) hu rfl plan_info2) rfl ?_
            exact plan_zero (HRUN.out) (by (repeat (with_reducible refine ext_setCell ?_ (by show w.heap.size ≤ w.heap.size + 1; omega) _)); exact HBF.out)
        · have hl2 : ((ys.length : Int) + 1 != 2) = true := by rw [bne_iff_ne]; omega
          have HRUN := Lib.hid (PlanRun.seven L _ _ x n HH.out.1 HJR.out (fun a' b' m' hc hw => by
                obtain ⟨rfl, rfl⟩ := HCUT.out.1.eq hc
                obtain ⟨x', ex, _⟩ := hw
                rw [← HBY.out] at ex
                have := congrArg List.length ex
                simp at this
                exact hlen this))
          clear hlen
          go_wp2_with ((with_reducible refine (fail_lit 7 _).mono ?_))
          rintro e wf ⟨rfl, hbf⟩
          have HFX := Lib.hid ((HL3.out.fix).mono hbf)
          have HBF := Lib.hid (below_tr (HL3.out.below) hbf)
          have d0 := ((HFX.out).rcell 0 (.int .i64 0) rfl).1
          have u0 := ((HFX.out).rcell 0 (.int .i64 0) rfl).2
          have d1 := ((HFX.out).rcell 1 (.int .i64 0) rfl).1
          have u1 := ((HFX.out).rcell 1 (.int .i64 0) rfl).2
          have d2 := ((HFX.out).rcell 2 (.int .i64 0) rfl).1
          have u2 := ((HFX.out).rcell 2 (.int .i64 0) rfl).2
          have d3 := ((HFX.out).rcell 3 (.int .i64 0) rfl).1
          have u3 := ((HFX.out).rcell 3 (.int .i64 0) rfl).2
          have d4 := ((HFX.out).rcell 4 (.int .i64 0) rfl).1
          have u4 := ((HFX.out).rcell 4 (.int .i64 0) rfl).2
          have d5 := ((HFX.out).rcell 5 (.int .i64 0) rfl).1
          have u5 := ((HFX.out).rcell 5 (.int .i64 0) rfl).2
          have d6 := ((HFX.out).rcell 6 (.int .i64 0) rfl).1
          have u6 := ((HFX.out).rcell 6 (.int .i64 0) rfl).2
          have d7 := ((HFX.out).rcell 7 (.int .i64 0) rfl).1
          have u7 := ((HFX.out).rcell 7 (.int .i64 0) rfl).2
          have d8 := ((HFX.out).rcell 8 (.slice none 0 0) rfl).1
          have u8 := ((HFX.out).rcell 8 (.slice none 0 0) rfl).2
          have d9 := ((HFX.out).rcell 9 (.int .i64 0) rfl).1
          have u9 := ((HFX.out).rcell 9 (.int .i64 0) rfl).2
          have d10 := ((HFX.out).rcell 10 (.slice none 0 0) rfl).1
          have u10 := ((HFX.out).rcell 10 (.slice none 0 0) rfl).2
          go_wp2_with fail
          refine bodyPost_ret (results_cell_tmp2_row rfl _ _ (w.heap.size + 1) _ (plCells zeroP nilV nilV) (0, 0) (.struct fs) rfl (plan_ret zeroP nilV nilV (HFX.out)) hu rfl plan_info2) rfl ?_
          exact plan_zero (HRUN.out) (by (repeat (with_reducible refine ext_setCell ?_ (by show w.heap.size ≤ w.heap.size + 1; omega) _)); exact HBF.out)
    · have hfb : (f != 0) = true := by rw [bne_iff_ne]; exact hf
      have HRUN := Lib.hid (PlanRun.job L _ _ x f n HH.out.1 HJR.out hf)
      clear hf
      have hz1 : w.heap.size + 1 < w1.heap.size := by have := HX1.out.2.2.lt; omega
      have hz2 : w.heap.size + 1 ≠ w1.heap.size := by omega
      have d0 := ((HX1.out.1).rcell 0 (.int .i64 0) rfl).1
      have u0 := ((HX1.out.1).rcell 0 (.int .i64 0) rfl).2
      have d1 := ((HX1.out.1).rcell 1 (.int .i64 0) rfl).1
      have u1 := ((HX1.out.1).rcell 1 (.int .i64 0) rfl).2
      have d2 := ((HX1.out.1).rcell 2 (.int .i64 0) rfl).1
      have u2 := ((HX1.out.1).rcell 2 (.int .i64 0) rfl).2
      have d3 := ((HX1.out.1).rcell 3 (.int .i64 0) rfl).1
      have u3 := ((HX1.out.1).rcell 3 (.int .i64 0) rfl).2
      have d4 := ((HX1.out.1).rcell 4 (.int .i64 0) rfl).1
      have u4 := ((HX1.out.1).rcell 4 (.int .i64 0) rfl).2
      have d5 := ((HX1.out.1).rcell 5 (.int .i64 0) rfl).1
      have u5 := ((HX1.out.1).rcell 5 (.int .i64 0) rfl).2
      have d6 := ((HX1.out.1).rcell 6 (.int .i64 0) rfl).1
      have u6 := ((HX1.out.1).rcell 6 (.int .i64 0) rfl).2
      have d7 := ((HX1.out.1).rcell 7 (.int .i64 0) rfl).1
      have u7 := ((HX1.out.1).rcell 7 (.int .i64 0) rfl).2
      have d8 := ((HX1.out.1).rcell 8 (.slice none 0 0) rfl).1
      have u8 := ((HX1.out.1).rcell 8 (.slice none 0 0) rfl).2
      have d9 := ((HX1.out.1).rcell 9 (.int .i64 0) rfl).1
      have u9 := ((HX1.out.1).rcell 9 (.int .i64 0) rfl).2
      have d10 := ((HX1.out.1).rcell 10 (.slice none 0 0) rfl).1
      have u10 := ((HX1.out.1).rcell 10 (.slice none 0 0) rfl).2
      go_wp2_with fail
      refine bodyPost_ret (results_cell_tmp2_row rfl _ _ (w.heap.size + 1) _ (plCells zeroP nilV nilV) (0, 0) (.struct fs) rfl (heap_alloc_keep _ (plan_ret zeroP nilV nilV HX1.out.1)) hu rfl plan_info2) rfl ?_
      exact plan_zero (HRUN.out) (by refine ext_alloc ?_ _; (repeat (with_reducible refine ext_setCell ?_ (by show w.heap.size ≤ w.heap.size + 1; omega) _)); exact HB1.out)
end Go.Proofs.YtljbclkbmjjmdaaGreatDoor
