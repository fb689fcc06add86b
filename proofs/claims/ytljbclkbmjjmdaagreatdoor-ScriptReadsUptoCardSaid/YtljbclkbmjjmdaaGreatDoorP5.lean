/- The walks of a job's line readers. -/
import Derived.Test.YtljbclkbmjjmdaaGreatDoorP4
namespace Go.Proofs.YtljbclkbmjjmdaaGreatDoor
open Go.RowKit Go.Shelf
/-- The reader's block. -/
def jbCells (j : Jb) : Array Value := #[.int .i64 j.groups, .int .i64 j.size, .int .i64 j.slide, .int .i64 j.fold, .int .i64 j.fuel, .int .i64 j.limit, .int .i64 j.delay, .int .i64 j.idle]
def RdAt (r : Nat) (j : Jb) (w : World) : Prop := w.heap[r]? = some (.cells (jbCells j) 89 (0, 0))
theorem RdAt.mono {r : Nat} {j : Jb} {w w' : World} (h : RdAt r j w) (hb : Below w.heap.size w w') : RdAt r j w' := (hb.block r (Array.getElem?_eq_some_iff.1 h).1).trans h
/-- What a line's reader leaves. -/
def RdPost (r : Nat) (k : Int) (xs : List (List UInt8)) (j : Jb) (w : World) (e : Ending) (w' : World) : Prop :=
  ∃ b j', e = .returned (.bool b) ∧ RdAt r j' w' ∧ w.grownBy w' (some r) ∧ ((b = true ∧ LineP k xs j j') ∨ (b = false ∧ ∀ c, ¬ LineP k xs j c))
theorem grown_below {w w1 w2 : World} {r : Nat} (h : Below w.heap.size w w1) (k : w1.grownBy w2 (some r)) : w.grownBy w2 (some r) :=
  ⟨k.os.trans h.os, k.tape.trans h.tape, k.output.trans h.output, Nat.le_trans h.size k.size, fun i hi hne => (k.block i (Nat.lt_of_lt_of_le hi h.size) hne).trans (h.block i hi)⟩
theorem grown_set {w : World} (r o : Nat) (v : Value) : w.grownBy (w.setCell ⟨r, o, none⟩ v) (some r) :=
  ⟨rfl, rfl, rfl, by simp, fun i _ hne => by rw [Deep.blk_setCell_other _ _ _ _ (fun e => hne (by rw [e]))]⟩
theorem grown_trans {w a b : World} {r : Nat} (h : w.grownBy a (some r)) (k : a.grownBy b (some r)) : w.grownBy b (some r) :=
  ⟨k.os.trans h.os, k.tape.trans h.tape, k.output.trans h.output, Nat.le_trans h.size k.size, fun i hi hne => (k.block i (Nat.lt_of_lt_of_le hi h.size) hne).trans (h.block i hi hne)⟩
theorem rd_cell {r : Nat} {j : Jb} {w : World} (h : RdAt r j w) (i : Nat) (v : Value) (hv : (jbCells j)[i]? = some v) : w.cell? ⟨r, i, none⟩ = some v ∧ w.frozen? ⟨r, i, none⟩ = false := by
  unfold RdAt at h
  exact ⟨by rw [Lib.cell_of_heap h]; exact hv, by simp [World.frozen?, h]⟩
theorem rd_set {r : Nat} {j j' : Jb} {w : World} (h : RdAt r j w) (i : Nat) (v : Value) (hv : (jbCells j).setIfInBounds i v = jbCells j') : RdAt r j' (w.setCell ⟨r, i, none⟩ v) := by
  unfold RdAt at h ⊢
  have := heap_setCell_same w r i _ _ v h
  rw [hv] at this
  exact this
theorem small_job (n : Int) (w : World) : Calls Tryz.prog 102 #[.int .i64 n] w fun e w' => e = .returned (.int .i64 (smallI n)) ∧ w = w' := by
  go_enter Tryz.func102, Tryz.ntmps102
  go_wp2
  go_ret
  exact ⟨ret_int (by unfold smallI; omega), rfl⟩
def JNumPost (s : ByteArray) (w : World) (e : Ending) (w' : World) : Prop := ∃ n b, e = .returned (.tuple #[.int .i64 n, .bool b]) ∧ Wf .i64 n ∧ Below w.heap.size w w' ∧ ((b = true ∧ NumL (bytesL s) n) ∨ (b = false ∧ ∀ v, ¬ NumL (bytesL s) v))
theorem number_job (s : ByteArray) (hl : s.size ≤ 281474976710656) (w : World) (h : Env w) : Calls Tryz.prog 101 #[.string s] w (JNumPost s w) := by
  have HP := Lib.hid (parseInt_calls s hl w h)
  have ht := h.tab
  have HF := fun n (hn : Wf .i64 n) W (hb : Below w.heap.size w W) => Lib.hid (fmt_int n hn W (ht.mono hb))
  clear h ht
  go_enter Tryz.func101, Tryz.ntmps101
  go_wp2_with (go_at_call 80; refine HP.out.mono ?_)
  rintro r w1 ⟨n, ev, rfl, hn, hb1, hc⟩
  rcases hc with ⟨hok, rfl⟩ | ⟨hno, t, p, rfl⟩
  · have HO := Lib.hid hok
    obtain ⟨q, hq⟩ : ∃ q, q = ByteArray.mk (Lib.itoa n).toArray := ⟨_, rfl⟩
    have HFn := HF n hn
    rw [← hq] at HFn
    have HQ := Lib.hid hq
    clear hok hq HF
    by_cases h0 : 0 ≤ n
    · go_wp2_with (go_at_call 55; refine (HFn _ hb1).out.mono ?_; rintro r w2 ⟨rfl, hb2⟩)
      go_ret2
      refine ⟨n, _, rfl, hn, below_tr hb1 hb2, ?_⟩
      by_cases e : q = s
      · refine .inl ⟨by simp [e], hn, ?_, h0⟩
        rw [← e, HQ.out]
        simp [bytesL]
      · have e' : q.toList ≠ s.toList := fun h' => e (by
          rw [ByteArray.toList_eq, ByteArray.toList_eq] at h'
          rw [mk_of q, mk_of s, h'])
        refine .inr ⟨by simp [e'], fun v hv => num_other HO.out (fun h' => e ?_) v ⟨hv.1, hv.2.1⟩⟩
        rw [HQ.out, ← h']
    · have h0' : n < 0 := by omega
      go_wp2
      go_ret2
      refine ⟨n, false, rfl, hn, hb1, .inr ⟨rfl, fun v hv => ?_⟩⟩
      have hp := parse_itoa v hv.1
      rw [show Lib.itoa v = s.data.toList from hv.2.1.symm, HO.out] at hp
      injection hp with hp
      have := hv.2.2
      omega
  · have HO := Lib.hid hno
    clear hno HF
    go_wp2
    go_ret2
    exact ⟨n, false, rfl, hn, hb1, .inr ⟨rfl, fun v hv => num_none HO.out v ⟨hv.1, hv.2.1⟩⟩⟩
set_option maxHeartbeats 1000000 in
theorem rd_groups (r : Nat) (j : Jb) (x : ByteArray) (v : Value) (w : World) (hs : Sl 1 rStr w v [x]) (h : Env w) (hl : x.size < 4294967281) (hr : RdAt r j w) :
    Calls Tryz.prog 74 #[.pointer (some ⟨r, 0, none⟩), v] w (RdPost r 1 [bytesL x] j w) := by
  obtain ⟨A, c, rfl, hs, hc, hm⟩ := hs
  obtain ⟨b, o, y, rfl, hz, ⟨hy, hyw⟩, hcy⟩ := hs.one 0 (by simp)
  injection hy with hy
  subst hy
  simp only [List.getElem_cons_zero, Nat.add_zero] at hcy
  have HN := Lib.hid (number_job x (by omega) w h)
  have HR := Lib.hid hr
  clear hs hr
  go_enter Tryz.func74, Tryz.ntmps74
  go_wp2_with (go_at_call 101; (with_reducible refine HN.out.mono ?_))
  rintro e w1 ⟨n, bo, rfl, hn, hb1, hp⟩
  have HP := Lib.hid hp
  have HR1 := Lib.hid (HR.out.mono hb1)
  obtain ⟨c1, u1⟩ := rd_cell HR1.out 0 _ rfl
  clear hp
  go_wp2_with (go_at_call 102; (with_reducible refine (small_job _ _).mono ?_); rintro e w2 ⟨rfl, rfl⟩)
  go_ret
  refine ⟨bo, { j with groups := smallI n }, rfl, rd_set HR1.out 0 _ rfl, grown_below hb1 (grown_set _ _ _), ?_⟩
  rcases HP.out with ⟨h1, h2⟩ | ⟨h1, h2⟩
  · exact .inl ⟨h1, by rw [lineP1]; exact ⟨_, n, rfl, h2, rfl⟩⟩
  · exact .inr ⟨h1, fun c hc => by rw [lineP1] at hc; obtain ⟨_, m, e, hm, _⟩ := hc; injection e with e _; subst e; exact h2 m hm⟩
set_option maxHeartbeats 1000000 in
theorem rd_window (r : Nat) (j : Jb) (x y : ByteArray) (v : Value) (w : World) (hs : Sl 1 rStr w v [x, y]) (h : Env w) (hl : x.size < 4294967281) (hl2 : y.size < 4294967281) (hr : RdAt r j w) :
    Calls Tryz.prog 75 #[.pointer (some ⟨r, 0, none⟩), v] w (RdPost r 2 [bytesL x, bytesL y] j w) := by
  obtain ⟨A, c, rfl, hs, hc, hm⟩ := hs
  obtain ⟨b, o, z, rfl, hz, ⟨hy, hyw⟩, hcy⟩ := hs.one 0 (by simp)
  injection hy with hy
  subst hy
  obtain ⟨b', o', z, hA, hz2, ⟨hy2, hyw2⟩, hcy2⟩ := hs.one 1 (by simp)
  injection hA with hA
  injection hA with q1 q2
  subst q1 q2
  injection hy2 with hy2
  subst hy2
  simp only [List.getElem_cons_zero, List.getElem_cons_succ, Nat.add_zero] at hcy hcy2
  have HN := Lib.hid (number_job x (by omega) w h)
  have HN2 := fun W (hb : Below w.heap.size w W) => Lib.hid (number_job y (by omega) W (h.mono hb))
  have HR := Lib.hid hr
  clear hs hr
  go_enter Tryz.func75, Tryz.ntmps75
  go_wp2_with (go_at_call 101; (with_reducible refine HN.out.mono ?_))
  rintro e w1 ⟨n, bo, rfl, hn, hb1, hp⟩
  have HP := Lib.hid hp
  have f2 : w1.cell? ⟨b, o + 1, none⟩ = some (.string y) := ((bcell hb1).1 _ _ hz2).trans hcy2
  clear hp hcy hcy2
  go_wp2_with (go_at_call 101; (with_reducible refine (HN2 _ hb1).out.mono ?_))
  rintro e w2 ⟨n2, bo2, rfl, hn2, hb2, hp2⟩
  have HP2 := Lib.hid hp2
  have hb3 := below_tr hb1 hb2
  have HR1 := Lib.hid (HR.out.mono hb3)
  obtain ⟨c1, u1⟩ := rd_cell HR1.out 1 _ rfl
  obtain ⟨c2, u2⟩ := rd_cell HR1.out 2 _ rfl
  clear hp2 f2
  cases bo
  all_goals
    go_wp2_with fail
    go_ret
  · refine ⟨false, { j with size := n, slide := n2 }, rfl, rd_set (j' := { j with size := n, slide := n2 }) (rd_set (j' := { j with size := n }) HR1.out 1 _ rfl) 2 _ rfl, grown_below hb3 (grown_trans (grown_set _ _ _) (grown_set _ _ _)), .inr ⟨rfl, fun c hc => ?_⟩⟩
    rw [lineP2] at hc
    obtain ⟨_, _, a, b, e, h1, h2, _⟩ := hc
    injection e with e _
    subst e
    rcases HP.out with ⟨h3, _⟩ | ⟨_, h3⟩
    · cases h3
    · exact h3 _ h1
  · refine ⟨bo2, { j with size := n, slide := n2 }, rfl, rd_set (j' := { j with size := n, slide := n2 }) (rd_set (j' := { j with size := n }) HR1.out 1 _ rfl) 2 _ rfl, grown_below hb3 (grown_trans (grown_set _ _ _) (grown_set _ _ _)), ?_⟩
    rcases HP.out with ⟨_, h3⟩ | ⟨h3, _⟩
    · rcases HP2.out with ⟨h4, h5⟩ | ⟨h4, h5⟩
      · exact .inl ⟨h4, by rw [lineP2]; exact ⟨_, _, n, n2, rfl, h3, h5, rfl⟩⟩
      · exact .inr ⟨h4, fun c hc => by rw [lineP2] at hc; obtain ⟨_, _, a, b, e, h1, h2, _⟩ := hc; injection e with _ e; injection e with e _; subst e; exact h5 _ h2⟩
    · cases h3
set_option maxHeartbeats 1000000 in
theorem rd_loop (r : Nat) (j : Jb) (x y : ByteArray) (v : Value) (w : World) (hs : Sl 1 rStr w v [x, y]) (h : Env w) (hl : x.size < 4294967281) (hl2 : y.size < 4294967281) (hr : RdAt r j w) :
    Calls Tryz.prog 77 #[.pointer (some ⟨r, 0, none⟩), v] w (RdPost r 4 [bytesL x, bytesL y] j w) := by
  obtain ⟨A, c, rfl, hs, hc, hm⟩ := hs
  obtain ⟨b, o, z, rfl, hz, ⟨hy, hyw⟩, hcy⟩ := hs.one 0 (by simp)
  injection hy with hy
  subst hy
  obtain ⟨b', o', z, hA, hz2, ⟨hy2, hyw2⟩, hcy2⟩ := hs.one 1 (by simp)
  injection hA with hA
  injection hA with q1 q2
  subst q1 q2
  injection hy2 with hy2
  subst hy2
  simp only [List.getElem_cons_zero, List.getElem_cons_succ, Nat.add_zero] at hcy hcy2
  have HN := Lib.hid (number_job x (by omega) w h)
  have HN2 := fun W (hb : Below w.heap.size w W) => Lib.hid (number_job y (by omega) W (h.mono hb))
  have HR := Lib.hid hr
  clear hs hr
  go_enter Tryz.func77, Tryz.ntmps77
  go_wp2_with (go_at_call 101; (with_reducible refine HN.out.mono ?_))
  rintro e w1 ⟨n, bo, rfl, hn, hb1, hp⟩
  have HP := Lib.hid hp
  have f2 : w1.cell? ⟨b, o + 1, none⟩ = some (.string y) := ((bcell hb1).1 _ _ hz2).trans hcy2
  clear hp hcy hcy2
  go_wp2_with (go_at_call 101; (with_reducible refine (HN2 _ hb1).out.mono ?_))
  rintro e w2 ⟨n2, bo2, rfl, hn2, hb2, hp2⟩
  have HP2 := Lib.hid hp2
  have hb3 := below_tr hb1 hb2
  have HR1 := Lib.hid (HR.out.mono hb3)
  obtain ⟨c1, u1⟩ := rd_cell HR1.out 5 _ rfl
  obtain ⟨c2, u2⟩ := rd_cell HR1.out 4 _ rfl
  clear hp2 f2
  cases bo
  all_goals
    go_wp2_with (go_at_call 102; (with_reducible refine (small_job _ _).mono ?_); rintro e w2 ⟨rfl, rfl⟩)
    go_ret
  · refine ⟨false, { j with limit := n, fuel := smallI n2 }, rfl, rd_set (j' := { j with limit := n, fuel := smallI n2 }) (rd_set (j' := { j with limit := n }) HR1.out 5 _ rfl) 4 _ rfl, grown_below hb3 (grown_trans (grown_set _ _ _) (grown_set _ _ _)), .inr ⟨rfl, fun c hc => ?_⟩⟩
    rw [lineP4] at hc
    obtain ⟨_, _, a, b, e, h1, h2, _⟩ := hc
    injection e with e _
    subst e
    rcases HP.out with ⟨h3, _⟩ | ⟨_, h3⟩
    · cases h3
    · exact h3 _ h1
  · refine ⟨bo2, { j with limit := n, fuel := smallI n2 }, rfl, rd_set (j' := { j with limit := n, fuel := smallI n2 }) (rd_set (j' := { j with limit := n }) HR1.out 5 _ rfl) 4 _ rfl, grown_below hb3 (grown_trans (grown_set _ _ _) (grown_set _ _ _)), ?_⟩
    rcases HP.out with ⟨_, h3⟩ | ⟨h3, _⟩
    · rcases HP2.out with ⟨h4, h5⟩ | ⟨h4, h5⟩
      · exact .inl ⟨h4, by rw [lineP4]; exact ⟨_, _, n, n2, rfl, h3, h5, rfl⟩⟩
      · exact .inr ⟨h4, fun c hc => by rw [lineP4] at hc; obtain ⟨_, _, a, b, e, h1, h2, _⟩ := hc; injection e with _ e; injection e with e _; subst e; exact h5 _ h2⟩
    · cases h3
set_option maxHeartbeats 1000000 in
theorem rd_delay (r : Nat) (j : Jb) (x : ByteArray) (v : Value) (w : World) (hs : Sl 1 rStr w v [x]) (h : Env w) (hl : x.size < 4294967281) (hr : RdAt r j w) :
    Calls Tryz.prog 78 #[.pointer (some ⟨r, 0, none⟩), v] w (RdPost r 5 [bytesL x] j w) := by
  obtain ⟨A, c, rfl, hs, hc, hm⟩ := hs
  obtain ⟨b, o, y, rfl, hz, ⟨hy, hyw⟩, hcy⟩ := hs.one 0 (by simp)
  injection hy with hy
  subst hy
  simp only [List.getElem_cons_zero, Nat.add_zero] at hcy
  have HN := Lib.hid (number_job x (by omega) w h)
  have HR := Lib.hid hr
  clear hs hr
  go_enter Tryz.func78, Tryz.ntmps78
  go_wp2_with (go_at_call 101; (with_reducible refine HN.out.mono ?_))
  rintro e w1 ⟨n, bo, rfl, hn, hb1, hp⟩
  have HP := Lib.hid hp
  have HR1 := Lib.hid (HR.out.mono hb1)
  obtain ⟨c1, u1⟩ := rd_cell HR1.out 6 _ rfl
  clear hp
  go_wp2_with fail
  go_ret
  refine ⟨bo, { j with delay := n }, rfl, rd_set HR1.out 6 _ rfl, grown_below hb1 (grown_set _ _ _), ?_⟩
  rcases HP.out with ⟨h1, h2⟩ | ⟨h1, h2⟩
  · exact .inl ⟨h1, by rw [lineP5]; exact ⟨_, n, rfl, h2, rfl⟩⟩
  · exact .inr ⟨h1, fun c hc => by rw [lineP5] at hc; obtain ⟨_, m, e, hm, _⟩ := hc; injection e with e _; subst e; exact h2 m hm⟩
set_option maxHeartbeats 1000000 in
theorem rd_idle (r : Nat) (j : Jb) (x : ByteArray) (v : Value) (w : World) (hs : Sl 1 rStr w v [x]) (h : Env w) (hl : x.size < 4294967281) (hr : RdAt r j w) :
    Calls Tryz.prog 79 #[.pointer (some ⟨r, 0, none⟩), v] w (RdPost r 6 [bytesL x] j w) := by
  obtain ⟨A, c, rfl, hs, hc, hm⟩ := hs
  obtain ⟨b, o, y, rfl, hz, ⟨hy, hyw⟩, hcy⟩ := hs.one 0 (by simp)
  injection hy with hy
  subst hy
  simp only [List.getElem_cons_zero, Nat.add_zero] at hcy
  have HN := Lib.hid (number_job x (by omega) w h)
  have HR := Lib.hid hr
  clear hs hr
  go_enter Tryz.func79, Tryz.ntmps79
  go_wp2_with (go_at_call 101; (with_reducible refine HN.out.mono ?_))
  rintro e w1 ⟨n, bo, rfl, hn, hb1, hp⟩
  have HP := Lib.hid hp
  have HR1 := Lib.hid (HR.out.mono hb1)
  obtain ⟨c1, u1⟩ := rd_cell HR1.out 7 _ rfl
  clear hp
  go_wp2_with (go_at_call 102; (with_reducible refine (small_job _ _).mono ?_); rintro e w2 ⟨rfl, rfl⟩)
  go_ret
  refine ⟨bo, { j with idle := smallI n }, rfl, rd_set HR1.out 7 _ rfl, grown_below hb1 (grown_set _ _ _), ?_⟩
  rcases HP.out with ⟨h1, h2⟩ | ⟨h1, h2⟩
  · exact .inl ⟨h1, by rw [lineP6]; exact ⟨_, n, rfl, h2, rfl⟩⟩
  · exact .inr ⟨h1, fun c hc => by rw [lineP6] at hc; obtain ⟨_, m, e, hm, _⟩ := hc; injection e with e _; subst e; exact h2 m hm⟩
end Go.Proofs.YtljbclkbmjjmdaaGreatDoor
