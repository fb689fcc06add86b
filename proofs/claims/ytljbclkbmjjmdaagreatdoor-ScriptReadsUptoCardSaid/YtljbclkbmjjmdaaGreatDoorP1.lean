/- The walks of the script's numbers. -/
import Derived.Test.YtljbclkbmjjmdaaGreatDoorN
import Derived.Test.YtljbclkbmjjmdaaGreatDoorT4
namespace Go.Proofs.YtljbclkbmjjmdaaGreatDoor
open Go.RowKit Go.Shelf
/-- What the parser's callees look for among the package-level variables. -/
structure Env (w : World) : Prop where
  tab : Tab w
  len : ∃ m, w.cell? ⟨0, 0, none⟩ = some (.int .i64 m)
  syn : ∃ t p, w.var? Tryz.prog "strconv.ErrSyntax" = some #[.iface t p]
  rng : ∃ t p, w.var? Tryz.prog "strconv.ErrRange" = some #[.iface t p]
theorem syn_global : Tryz.prog.globalNamed "strconv.ErrSyntax" = some 4 := by kernel_rfl
theorem rng_global : Tryz.prog.globalNamed "strconv.ErrRange" = some 5 := by kernel_rfl
theorem var_mono {w w' : World} {n : String} {g : Nat} (hg : Tryz.prog.globalNamed n = some g) {v : Array Value} (h : w.var? Tryz.prog n = some v) (hb : Below w.heap.size w w') : w'.var? Tryz.prog n = some v := by
  have hlt : g < w.heap.size := by
    rcases Nat.lt_or_ge g w.heap.size with h' | h'
    · exact h'
    · exfalso
      unfold World.var? at h
      simp [hg, Array.getElem?_eq_none h'] at h
  exact var?_below hb hg hlt h
theorem Env.mono {w w' : World} (h : Env w) (hb : Below w.heap.size w w') : Env w' := by
  obtain ⟨t, ⟨m, hm⟩, ⟨a, b, hs⟩, ⟨c, d, hr⟩⟩ := h
  exact ⟨t.mono hb, ⟨m, by rw [hb.cell (block_lt_of_cell hm)]; exact hm⟩, ⟨a, b, var_mono syn_global hs hb⟩, ⟨c, d, var_mono rng_global hr hb⟩⟩
theorem bytesWorld_ext (w : World) (t : ByteArray) : Below w.heap.size w (Lib.bytesWorld w 5 t) := Lib.bytesWorld_below _ _ _
/-- A number that is read, or not. -/
theorem parseInt_calls (s : ByteArray) (hl : s.size ≤ 281474976710656) (w : World) (h : Env w) : Calls Tryz.prog 80 #[.string s, .int .i64 10, .int .i64 64] w fun e w' => ∃ n ev, e = .returned (.tuple #[.int .i64 n, ev]) ∧ Wf .i64 n ∧ Below w.heap.size w w' ∧
    ((Lib.parseIntB 64 s.data.toList = .ok n ∧ ev = .nilIface) ∨ ((∀ v, Lib.parseIntB 64 s.data.toList ≠ .ok v) ∧ ∃ t p, ev = .iface t p)) := by
  obtain ⟨_, _, ⟨a, b, hs⟩, ⟨c, d, hr⟩⟩ := h
  rcases hp : Lib.parseIntB 64 s.data.toList with v | _ | _
  · refine (Tryz.strconv_ParseInt_10_at64_ok s (by omega) v hp w).mono ?_
    rintro e w' ⟨rfl, hw⟩
    refine ⟨v, _, rfl, parse_wf hp, ?_, .inl ⟨rfl, rfl⟩⟩
    rcases hw with rfl | ⟨t, rfl⟩
    · exact Below.refl _ _
    · exact bytesWorld_ext _ _
  · refine (Tryz.strconv_ParseInt_10_at64_syntax_var s hl hp a b w hs).mono ?_
    rintro e w' ⟨N, rfl, _, _, hb⟩
    exact ⟨0, _, rfl, by rw [Wf.i64]; omega, hb, .inr ⟨fun v => by simp, _, _, rfl⟩⟩
  · refine (Tryz.strconv_ParseInt_10_at64_range_var s hl hp c d w hr).mono ?_
    rintro e w' ⟨N, rfl, _, _, hb⟩
    refine ⟨_, _, rfl, ?_, hb, .inr ⟨fun v => by simp, _, _, rfl⟩⟩
    rw [Wf.i64]
    cases hd : s.data.toList with
    | nil => rw [hd] at hp; cases hp
    | cons x r =>
      by_cases h45 : x.toNat = 45
      · have : x = 45 := UInt8.toNat_inj.1 h45
        subst this
        rw [Lib.intSat_minus]; omega
      · rw [Lib.intSat_other 64 x r h45]; omega
theorem whole_calls (s : ByteArray) (hl : s.size ≤ 281474976710656) (w : World) (h : Env w) : Calls Tryz.prog 45 #[.string s] w fun e w' => ∃ n b, e = .returned (.tuple #[.int .i64 n, .bool b]) ∧ Wf .i64 n ∧ Below w.heap.size w w' ∧ ((b = true ∧ IsNum s n) ∨ (b = false ∧ ∀ v, ¬ IsNum s v)) := by
  have HP := Lib.hid (parseInt_calls s hl w h)
  have ht := h.tab
  have HF := fun n (hn : Wf .i64 n) W (hb : Below w.heap.size w W) => Lib.hid (fmt_int n hn W (ht.mono hb))
  clear h ht
  go_enter Tryz.func45, Tryz.ntmps45
  go_wp2_with (go_at_call 80; refine HP.out.mono ?_)
  rintro r w1 ⟨n, ev, rfl, hn, hb1, hc⟩
  rcases hc with ⟨hok, rfl⟩ | ⟨hno, t, p, rfl⟩
  · have HO := Lib.hid hok
    obtain ⟨q, hq⟩ : ∃ q, q = ByteArray.mk (Lib.itoa n).toArray := ⟨_, rfl⟩
    have HFn := HF n hn
    rw [← hq] at HFn
    have HQ := Lib.hid hq
    clear hok hq HF
    go_wp2_with (go_at_call 55; refine (HFn _ hb1).out.mono ?_; rintro r w2 ⟨rfl, hb2⟩)
    go_ret2
    refine ⟨n, _, rfl, hn, below_tr hb1 hb2, ?_⟩
    by_cases e : q = s
    · refine .inl ⟨by simp [e], hn, ?_⟩
      rw [← e, HQ.out]
    · have e' : q.toList ≠ s.toList := fun h' => e (by
        rw [ByteArray.toList_eq, ByteArray.toList_eq] at h'
        rw [mk_of q, mk_of s, h'])
      refine .inr ⟨by simp [e'], num_other HO.out fun h' => e ?_⟩
      rw [HQ.out, ← h']
  · have HO := Lib.hid hno
    clear hno HF
    go_wp2
    go_ret2
    exact ⟨n, false, rfl, hn, hb1, .inr ⟨rfl, num_none HO.out⟩⟩
/-- How a number within bounds is read. -/
def NumPost (s : ByteArray) (m : Int) (w : World) (e : Ending) (w' : World) : Prop := ∃ n b, e = .returned (.tuple #[.int .i64 n, .bool b]) ∧ Wf .i64 n ∧ Below w.heap.size w w' ∧ ((b = true ∧ IsNum s n ∧ 0 ≤ n ∧ n ≤ m) ∨ (b = false ∧ ∀ v, IsNum s v → ¬ (0 ≤ v ∧ v ≤ m)))
theorem number_calls (s : ByteArray) (m : Int) (hl : s.size ≤ 281474976710656) (w : World) (h : Env w) : Calls Tryz.prog 17 #[.string s, .int .i64 m] w (NumPost s m w) := by
  have HP := Lib.hid (whole_calls s hl w h)
  clear h
  go_enter Tryz.func17, Tryz.ntmps17
  go_wp2_with (go_at_call 45; refine HP.out.mono ?_)
  rintro r w1 ⟨n, b, rfl, hn, hb1, hc⟩
  rcases hc with ⟨rfl, hy⟩ | ⟨rfl, hno⟩
  · have HY := Lib.hid hy
    clear hy
    by_cases h0 : 0 ≤ n
    · by_cases h1 : n ≤ m
      · go_wp2
        go_ret2
        exact ⟨n, _, rfl, hn, hb1, .inl ⟨by simp [h1], HY.out, h0, h1⟩⟩
      · go_wp2
        go_ret2
        exact ⟨n, _, rfl, hn, hb1, .inr ⟨by simp [h1], fun v hv hc => by have := HY.out.eq hv; omega⟩⟩
    · go_wp2
      go_ret2
      exact ⟨n, false, rfl, hn, hb1, .inr ⟨rfl, fun v hv hc => by have := HY.out.eq hv; omega⟩⟩
  · have HO := Lib.hid hno
    clear hno
    go_wp2
    go_ret2
    exact ⟨n, false, rfl, hn, hb1, .inr ⟨rfl, fun v hv => absurd hv (HO.out v)⟩⟩
end Go.Proofs.YtljbclkbmjjmdaaGreatDoor
