/- The walks of a plan's next line, and of a line that is refused. -/
import Derived.Test.YtljbclkbmjjmdaaGreatDoorP8
namespace Go.Proofs.YtljbclkbmjjmdaaGreatDoor
open Go.RowKit Go.Shelf
/-- All stands but some blocks. -/
structure KeptX (X : Nat → Prop) (w w' : World) : Prop where
  os : w'.os = w.os
  tape : w'.tape = w.tape
  output : w'.output = w.output
  size : w.heap.size ≤ w'.heap.size
  block : ∀ i, i < w.heap.size → ¬ X i → w'.heap[i]? = w.heap[i]?
theorem KeptX.refl (X : Nat → Prop) (w : World) : KeptX X w w := ⟨rfl, rfl, rfl, Nat.le_refl _, fun _ _ _ => rfl⟩
theorem KeptX.trans {X : Nat → Prop} {a b c : World} (h : KeptX X a b) (k : KeptX X b c) : KeptX X a c :=
  ⟨k.os.trans h.os, k.tape.trans h.tape, k.output.trans h.output, Nat.le_trans h.size k.size, fun i hi hx => (k.block i (Nat.lt_of_lt_of_le hi h.size) hx).trans (h.block i hi hx)⟩
theorem KeptX.of_below {X : Nat → Prop} {a b : World} (h : Below a.heap.size a b) : KeptX X a b := ⟨h.os, h.tape, h.output, h.size, fun i hi _ => h.block i hi⟩
theorem KeptX.set {X : Nat → Prop} {a : World} (g o : Nat) (v : Value) (hg : X g) : KeptX X a (a.setCell ⟨g, o, none⟩ v) :=
  ⟨rfl, rfl, rfl, by simp, fun i _ hx => by rw [Deep.blk_setCell_other _ _ _ _ (fun e => hx (by rw [e]; exact hg))]⟩
theorem KeptX.of_grown {X : Nat → Prop} {a b : World} {r : Option Nat} (h : a.grownBy b r) (hr : ∀ g, r = some g → X g) : KeptX X a b :=
  ⟨h.os, h.tape, h.output, h.size, fun i hi hx => h.block i hi (fun e => hx (hr i e.symm))⟩
theorem KeptX.weaken {X Y : Nat → Prop} {a b : World} (h : KeptX X a b) (hy : ∀ i, X i → Y i) : KeptX Y a b := ⟨h.os, h.tape, h.output, h.size, fun i hi hx => h.block i hi (fun e => hx (hy i e))⟩
theorem KeptX.below {X : Nat → Prop} {B : Nat} {a b : World} (h : KeptX X a b) (hB : ∀ i, X i → B ≤ i) (hs : B ≤ a.heap.size) : Below B a b :=
  ⟨h.os, h.tape, h.output, h.size, fun i hi => h.block i (by omega) (fun e => by have := hB i e; omega)⟩
/-- A row stands where the blocks that turn are of other types. -/
theorem row_keptX {X : Nat → Prop} {w w' : World} {B k n : Nat} {T : TypeId} {v : Value} {xs : List Value} (h : w.ownsRow B T k v n xs) (hk : KeptX X w w') (hX : ∀ g cur, X g → w.heap[g]? = some (.cells cur T (0, 0)) → False) : w'.ownsRow B T k v n xs := by
  refine ⟨h.1, ?_⟩
  rcases h.2 with hn | ⟨g, cap, cur, hv, hg, hh, r⟩
  · exact .inl hn
  · exact .inr ⟨g, cap, cur, hv, hg, (hk.block g (Array.getElem?_eq_some_iff.1 hh).1 (fun hx => hX g cur hx hh)).trans hh, r⟩
/-- An int variable's block. -/
def IntAt (b : Nat) (n : Int) (W : World) : Prop := W.heap[b]? = some (.cells #[.int .i64 n] 3 (0, 0))
theorem IntAt.cell {b : Nat} {n : Int} {W : World} (h : IntAt b n W) : W.cell? ⟨b, 0, none⟩ = some (.int .i64 n) ∧ W.frozen? ⟨b, 0, none⟩ = false := by
  unfold IntAt at h
  exact ⟨by rw [Lib.cell_of_heap h]; rfl, by simp [World.frozen?, h]⟩
theorem IntAt.lt {b : Nat} {n : Int} {W : World} (h : IntAt b n W) : b < W.heap.size := (Array.getElem?_eq_some_iff.1 h).1
theorem IntAt.mono {b : Nat} {n : Int} {W W' : World} (h : IntAt b n W) (hb : Below W.heap.size W W') : IntAt b n W' := (hb.block b h.lt).trans h
theorem IntAt.set {b : Nat} {n m : Int} {W : World} (h : IntAt b n W) : IntAt b m (W.setCell ⟨b, 0, none⟩ (.int .i64 m)) := by
  have := heap_setCell_same W b 0 _ _ (.int .i64 m) h
  simpa [IntAt] using this
theorem IntAt.keep {b g o : Nat} {n : Int} {W : World} {v : Value} (h : IntAt b n W) (hne : g ≠ b) : IntAt b n (W.setCell ⟨g, o, none⟩ v) := heap_setCell_keep hne h
/-- What the next line leaves. -/
def NextPost (L : List UInt8) (ba bn at_ no : Nat) (w : World) (e : Ending) (w' : World) : Prop :=
  ((∀ a b, ¬ Cut10 (L.drop at_) a b) ∧ e = .returned (.tuple #[.slice none 0 0, .bool false]) ∧ Below w.heap.size w w') ∨
  ∃ a b g, Cut10 (L.drop at_) a b ∧ at_ + a.length + 1 ≤ L.length ∧ L.drop (at_ + a.length + 1) = b ∧ e = .returned (.tuple #[.slice (some ⟨g, 0, none⟩) (wordsB a).length (wordsB a).length, .bool true]) ∧
    Sl 1 rStr w' (.slice (some ⟨g, 0, none⟩) (wordsB a).length (wordsB a).length) (wordsB a) ∧ KeptX (fun i => i = ba ∨ i = bn) w w' ∧ IntAt ba ((at_ + a.length + 1 : Nat) : Int) w' ∧ IntAt bn ((no + 1 : Nat) : Int) w'
set_option maxHeartbeats 1000000 in
set_option maxRecDepth 100000 in
theorem next_calls (s : ByteArray) (hs : s.size < 4294967281) (bs ba bn at_ no : Nat) (w0 w : World) (h0 : Env w0) (hb0 : Below w0.heap.size w0 w) (hba : w0.heap.size ≤ ba) (hbn : w0.heap.size ≤ bn) (hc : w.cell? ⟨bs, 0, none⟩ = some (.string s)) (ha : IntAt ba at_ w) (hn : IntAt bn no w) (h1 : ba ≠ bn) (h2 : at_ ≤ s.size) (h3 : no ≤ s.size) :
    Calls Tryz.prog 12 #[.pointer (some ⟨bs, 0, none⟩), .pointer (some ⟨ba, 0, none⟩), .pointer (some ⟨bn, 0, none⟩)] w (NextPost s.data.toList ba bn at_ no w) := by
  have h := h0.mono hb0
  obtain ⟨c1, f1⟩ := ha.cell
  obtain ⟨c2, f2⟩ := hn.cell
  obtain ⟨t, ht⟩ : ∃ t, t = s.extract at_ s.size := ⟨_, rfl⟩
  have hd : t.data.toList = s.data.toList.drop at_ := by rw [ht]; exact Lib.extract_to_end _ _
  have hts : t.size ≤ s.size := by rw [ht]; simp
  have HC := Lib.hid (cut_calls t 10 (by omega) w h)
  obtain ⟨a, hea⟩ : ∃ a, a = ByteArray.mk (cut1 10 t.data.toList).1.toArray := ⟨_, rfl⟩
  obtain ⟨q, hq⟩ : ∃ q, q = ByteArray.mk (cut1 10 t.data.toList).2.1.toArray := ⟨_, rfl⟩
  obtain ⟨B, hB⟩ : ∃ B, B = (cut1 10 t.data.toList).2.2 := ⟨_, rfl⟩
  rw [← hea, ← hq, ← hB] at HC
  have hsa : a.size ≤ t.size := by rw [hea, mk_size]; exact (cut1_len 10 _).1
  rw [ht] at HC
  have HE := Lib.hid (And.intro (And.intro ht hd) (And.intro hea (And.intro hq hB)))
  have HA := Lib.hid (And.intro ha hn)
  clear ht hd hea hq hB ha hn
  go_enter Tryz.func12, Tryz.ntmps12
  go_wp2_with (go_at_call 13; (with_reducible refine HC.out.mono ?_))
  rintro e w1 ⟨rfl, hb1⟩
  cases B
  · go_wp2_with fail
    go_ret2
    exact .inl ⟨fun a' b' hcut => no_cut10 HE.out.2.2.2.symm a' b' (by rw [HE.out.1.2]; exact hcut), rfl, hb1⟩
  · have hcut : Cut10 t.data.toList a.data.toList q.data.toList := by
      rw [cut10_iff, HE.out.2.1, HE.out.2.2.1]
      have := HE.out.2.2.2
      simp only
      rw [show cut1 10 t.data.toList = ((cut1 10 t.data.toList).1, (cut1 10 t.data.toList).2.1, (cut1 10 t.data.toList).2.2) from rfl, ← this]
    have hlen : at_ + a.size + 1 ≤ s.size := by
      have e := congrArg List.length hcut.1
      rw [HE.out.1.2] at e
      simp only [List.length_drop, List.length_append, List.length_cons] at e
      have e1 : s.data.toList.length = s.size := bytesL_length s
      have e2 : a.data.toList.length = a.size := bytesL_length a
      omega
    have HCUT := Lib.hid hcut
    have hA1 := HA.out.1.mono hb1
    have hN1 := HA.out.2.mono hb1
    obtain ⟨d1, g1⟩ := hA1.cell
    obtain ⟨d2, g2⟩ := hN1.cell
    have HA1 := Lib.hid (And.intro hA1 hN1)
    have hbw : KeptX (fun i => i = ba ∨ i = bn) w w1 := KeptX.of_below hb1
    have hbz : Below w0.heap.size w0 ((w1.setCell ⟨ba, 0, none⟩ (.int .i64 ((at_ : Int) + ((a.size : Int) + 1)))).setCell ⟨bn, 0, none⟩ (.int .i64 ((no : Int) + 1))) := ext_setCell (ext_setCell (below_tr hb0 hb1) hba _) hbn _
    have HS := Lib.hid (split_calls a (by omega) _ (h0.mono hbz))
    clear hcut hA1 hN1 c1 c2 f1 f2 HC
    go_wp2_with (go_at_call 14; (with_reducible refine HS.out.mono ?_))
    rintro e w2 ⟨rfl, hb2, hz, hsl⟩
    rw [show ((w1.setCell ⟨ba, 0, none⟩ (.int .i64 ((at_ : Int) + ((a.size : Int) + 1)))).setCell ⟨bn, 0, none⟩ (.int .i64 ((no : Int) + 1))).heap.size = w1.heap.size by simp] at hsl
    have HSL := Lib.hid hsl
    clear hsl
    go_wp2_with fail
    go_ret2
    have e2 : a.data.toList.length = a.size := bytesL_length a
    have e1 : s.data.toList.length = s.size := bytesL_length s
    refine .inr ⟨a.data.toList, q.data.toList, _, by rw [← HE.out.1.2]; exact HCUT.out, by omega, ?_, rfl, HSL.out, (hbw.trans ((KeptX.set _ _ _ (.inl rfl)).trans (KeptX.set _ _ _ (.inr rfl)))).trans (KeptX.of_below hb2), ?_, ?_⟩
    · have e3 := HCUT.out.1
      rw [HE.out.1.2] at e3
      rw [show at_ + a.data.toList.length + 1 = at_ + (a.data.toList.length + 1) by omega, ← List.drop_drop, e3, show a.data.toList ++ 10 :: q.data.toList = (a.data.toList ++ [10]) ++ q.data.toList by simp, List.drop_left' (by simp)]
    · have := ((HA1.out.1.set (m := (at_ : Int) + ((a.size : Int) + 1))).keep (g := bn) (o := 0) (v := .int .i64 ((no : Int) + 1)) (Ne.symm h1)).mono hb2
      rw [show ((at_ + a.data.toList.length + 1 : Nat) : Int) = (at_ : Int) + ((a.size : Int) + 1) by omega]
      exact this
    · have := ((HA1.out.2.keep (g := ba) (o := 0) (v := .int .i64 ((at_ : Int) + ((a.size : Int) + 1))) h1).set (m := (no : Int) + 1)).mono hb2
      exact this
def plCells (p : Pl) (vi va : Value) : Array Value := #[.int .i64 p.job.groups, .int .i64 p.job.size, .int .i64 p.job.slide, .int .i64 p.job.fold, .int .i64 p.job.fuel, .int .i64 p.job.limit, .int .i64 p.job.delay, .int .i64 p.job.idle, vi, .int .i64 p.workers, va]
def nilV : Value := .slice none 0 0
theorem plan_struct2 : ∃ fs, Tryz.prog.underlying 27 = some (.struct fs) := by
  have h : (match Tryz.prog.underlying 27 with | some (.struct _) => true | _ => false) = true := by kernel_rfl
  split at h
  · rename_i fs hu; exact ⟨fs, hu⟩
  · cases h
theorem plan_info2 : (Tryz.prog.info? 27).map (·.size) = some 11 := by kernel_rfl
set_option maxHeartbeats 1000000 in
set_option maxRecDepth 100000 in
theorem fail_calls (n : Int) (w : World) : Calls Tryz.prog 16 #[.int .i64 n] w fun e w' => e = .returned (.tuple #[.agg (plCells zeroP nilV nilV), .int .i64 240, .int .i64 n]) ∧ Below w.heap.size w w' := by
  obtain ⟨fs, hu⟩ := plan_struct2
  go_enter Tryz.func16, Tryz.ntmps16
  go_wp2_with fail
  refine bodyPost_ret (results_cell_tmp2_row rfl _ _ w.heap.size 27 (plCells zeroP nilV nilV) (0, 0) (.struct fs) rfl ?_ hu rfl plan_info2) rfl ⟨rfl, ?_⟩
  · exact heap_alloc_new w _
  · exact (Below.refl _ _).alloc (Nat.le_refl _) _
end Go.Proofs.YtljbclkbmjjmdaaGreatDoor
