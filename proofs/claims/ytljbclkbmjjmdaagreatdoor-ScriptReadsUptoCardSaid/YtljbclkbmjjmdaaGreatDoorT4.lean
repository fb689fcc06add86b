/- The printer's acts and sources. -/
import Derived.Test.YtljbclkbmjjmdaaGreatDoorT3
import Derived.Deep.OwnRows
namespace Go.Proofs.YtljbclkbmjjmdaaGreatDoor
open Go.RowKit Go.Shelf

def actL (a : Ac) : List UInt8 :=
  if needs a.what = 0 then lineL [wordL a.what] else if needs a.what = 1 then lineL [wordL a.what, Lib.itoa a.which] else lineL [wordL a.what, Lib.itoa a.who]
def evL (e : Ev) : List UInt8 := bytesL e.key ++ [64] ++ Lib.itoa e.at_ ++ [58] ++ Lib.itoa e.val
def srcWord : List UInt8 := [115, 111, 117, 114, 99, 101]
def sourceL (s : List Ev) : List UInt8 := lineL (srcWord :: s.map evL)

theorem ownsRowF_ext {w w' : World} {B : Nat} {e : TypeId} {v : Value} {n : Nat} {xs : List Value} (h : w.ownsRowF B e 1 v n xs) (hb : Below w.heap.size w w') : w'.ownsRowF B e 1 v n xs := by
  refine ⟨h.1, ?_⟩
  rcases h.2 with hn | ⟨g, cap, cur, fz, hv, hg, hh, r⟩
  · exact .inl hn
  · exact .inr ⟨g, cap, cur, fz, hv, hg, (hb.block g (Array.getElem?_eq_some_iff.1 hh).1).trans hh, r⟩
theorem PrAt.ext {B b : Nat} {l : List UInt8} {w w' : World} (h : PrAt B b l w) (hb : Below w.heap.size w w') : PrAt B b l w' := by
  rcases h with ⟨h1, v, h2, h3, h4⟩ | ⟨h1, v, h2, h3, h4⟩
  · exact .inl ⟨h1, v, (hb.block b (Array.getElem?_eq_some_iff.1 h2).1).trans h2, ownsRowF_ext h3 hb, h4⟩
  · exact .inr ⟨h1, v, (hb.block b (Array.getElem?_eq_some_iff.1 h2).1).trans h2, ownsRowF_ext h3 hb, h4⟩
theorem Kept.of_ext {b : Nat} {w w' : World} (hb : Below w.heap.size w w') : Kept b w w' := fun k _ hk _ _ => (hb.block k (Array.getElem?_eq_some_iff.1 hk).1).trans hk
theorem row_lit (W : World) (ss : List ByteArray) (h : ss.length ≤ 1000) : (W.alloc (.cells (ss.map Value.string).toArray 9)).ownsRow 0 9 1 (.slice (some ⟨W.heap.size, 0, none⟩) ss.length ss.length) ss.length (ss.map .string) := by
  refine ⟨by simp, .inr ⟨W.heap.size, ss.length, (ss.map Value.string).toArray, rfl, Nat.zero_le _, heap_alloc_new W _, Nat.le_refl _, by unfold maxLen; omega, by simp, List.take_of_length_le (by simp)⟩⟩
theorem Tab.monoB {w w' : World} (h : Tab w) {B : Nat} (hB : 1 < B) (hb : Below B w w') : Tab w' := var?_below hb tab_global hB h

theorem line1 (B b : Nat) (l : List UInt8) (s : ByteArray) (W : World) (g : Nat) (hg : g = W.heap.size) (h : PrAt B b l W) (hB : B ≤ W.heap.size) (hlen : l.length + (lineL [bytesL s]).length ≤ 140737488355328) :
    Calls Tryz.prog 29 #[.pointer (some ⟨b, 0, none⟩), .slice (some ⟨g, 0, none⟩) 1 1] (W.alloc (.cells #[.string s] 9)) fun e w' => e = .returned (.tuple #[]) ∧ PrAt B b (l ++ lineL [bytesL s]) w' ∧ Below B W w' ∧ Kept b W w' := by
  subst hg
  exact (line_calls B b 0 l _ [s] _ (h.alloc _) (by simp; omega) (row_lit W [s] (by simp)) hlen (by simp)).mono fun _ _ ⟨he, hp, hb, hk⟩ => ⟨he, hp, ((Below.refl B W).alloc hB _).trans hb, ((Lib.OthersKept.refl _ _ W).alloc _).trans hk⟩
theorem line2 (B b : Nat) (l : List UInt8) (s t : ByteArray) (W : World) (g : Nat) (hg : g = W.heap.size) (h : PrAt B b l W) (hB : B ≤ W.heap.size) (hlen : l.length + (lineL [bytesL s, bytesL t]).length ≤ 140737488355328) :
    Calls Tryz.prog 29 #[.pointer (some ⟨b, 0, none⟩), .slice (some ⟨g, 0, none⟩) 2 2] (W.alloc (.cells #[.string s, .string t] 9)) fun e w' => e = .returned (.tuple #[]) ∧ PrAt B b (l ++ lineL [bytesL s, bytesL t]) w' ∧ Below B W w' ∧ Kept b W w' := by
  subst hg
  exact (line_calls B b 0 l _ [s, t] _ (h.alloc _) (by simp; omega) (row_lit W [s, t] (by simp)) hlen (by simp)).mono fun _ _ ⟨he, hp, hb, hk⟩ => ⟨he, hp, ((Below.refl B W).alloc hB _).trans hb, ((Lib.OthersKept.refl _ _ W).alloc _).trans hk⟩

set_option maxHeartbeats 1000000 in
theorem act_calls (B b : Nat) (l : List UInt8) (a : Ac) (ha : a.wf) (w : World) (h : PrAt B b l w) (hB : B ≤ w.heap.size) (ht : Tab w) (hlen : l.length + (actL a).length ≤ 140737488355328) (hn : needs a.what = 0 ∨ needs a.what = 1 ∨ needs a.what = 2) :
    Calls Tryz.prog 32 #[.pointer (some ⟨b, 0, none⟩), .agg #[.int .i64 a.what, .int .i64 a.who, .int .i64 a.which]] w fun e w' => e = .returned (.tuple #[]) ∧ PrAt B b (l ++ actL a) w' ∧ Below B w w' ∧ Kept b w w' := by
  obtain ⟨sw, hsw⟩ : ∃ sw, sw = ByteArray.mk (wordL a.what).toArray := ⟨_, rfl⟩
  have hword := fun W => word_impl a.what W
  rw [← hsw] at hword
  have hsl : bytesL sw = wordL a.what := by rw [hsw, bytesL_mk]
  have HSL := Lib.hid hsl
  clear hsw hsl
  have hA : Below B w (w.alloc (.cells #[.int .i64 a.what, .int .i64 a.who, .int .i64 a.which] 52)) := (Below.refl B w).alloc hB _
  have hAk : Kept b w (w.alloc (.cells #[.int .i64 a.what, .int .i64 a.who, .int .i64 a.which] 52)) := (Lib.OthersKept.refl _ _ w).alloc _
  have htA : Tab (w.alloc (.cells #[.int .i64 a.what, .int .i64 a.who, .int .i64 a.which] 52)) := ht.mono ((Below.refl _ w).alloc (Nat.le_refl _) _)
  rcases hn with hn | hn | hn
  · have hk : actL a = lineL [bytesL sw] := by unfold actL; rw [if_pos hn, HSL.out]
    rw [hk] at hlen ⊢
    have HW := fun W => Lib.hid (hword W)
    have HN := Lib.hid hn
    have HL := fun W g (hg : g = W.heap.size) (hW : PrAt B b l W) (hBW : B ≤ W.heap.size) => Lib.hid (line1 B b l sw W g hg hW hBW hlen)
    clear hk hn hlen hword
    go_enter Tryz.func32, Tryz.ntmps32
    go_wp2_with (first | (go_at_call 47; refine (HW _).out.mono ?_; rintro r w1 ⟨rfl, rfl⟩; rw [HN.out]) | (go_at_call 29; (with_reducible refine (HL _ _ (by simp) (h.alloc _) (by simp; omega)).out.mono ?_); rintro r w2 ⟨rfl, hp2, hb2, hk2⟩))
    go_end0
    exact ⟨rfl, hp2, hA.trans hb2, hAk.trans hk2⟩
  · obtain ⟨si, hsi⟩ : ∃ si, si = ByteArray.mk (Lib.itoa a.which).toArray := ⟨_, rfl⟩
    have hint := fun W (hT : Tab W) => itoa_int a.which ha.2.2 W hT
    rw [← hsi] at hint
    have hk : actL a = lineL [bytesL sw, bytesL si] := by unfold actL; rw [if_neg (by omega), if_pos hn, HSL.out, hsi, bytesL_mk]
    rw [hk] at hlen ⊢
    have HW := fun W => Lib.hid (hword W)
    have HN := Lib.hid hn
    have HI := fun W (hT : Tab W) => Lib.hid (hint W hT)
    have HL := fun W g (hg : g = W.heap.size) (hW : PrAt B b l W) (hBW : B ≤ W.heap.size) => Lib.hid (line2 B b l sw si W g hg hW hBW hlen)
    clear hk hn hlen hword hint hsi
    go_enter Tryz.func32, Tryz.ntmps32
    go_wp2_with (first | (go_at_call 47; refine (HW _).out.mono ?_; rintro r w1 ⟨rfl, rfl⟩; rw [HN.out]) | (go_at_call 30; refine (HI _ htA).out.mono ?_; rintro r w1 ⟨rfl, hb1⟩) | (go_at_call 29; (with_reducible refine (HL _ _ rfl (PrAt.ext (h.alloc _) hb1) (by have := hb1.size; simp at this; omega)).out.mono ?_); rintro r w2 ⟨rfl, hp2, hb2, hk2⟩))
    go_end0
    exact ⟨rfl, hp2, (hA.trans (hb1.mono (by simp; omega))).trans hb2, (hAk.trans (Kept.of_ext hb1)).trans hk2⟩
  · obtain ⟨si, hsi⟩ : ∃ si, si = ByteArray.mk (Lib.itoa a.who).toArray := ⟨_, rfl⟩
    have hint := fun W (hT : Tab W) => itoa_int a.who ha.2.1 W hT
    rw [← hsi] at hint
    have hk : actL a = lineL [bytesL sw, bytesL si] := by unfold actL; rw [if_neg (by omega), if_neg (by omega), HSL.out, hsi, bytesL_mk]
    rw [hk] at hlen ⊢
    have HW := fun W => Lib.hid (hword W)
    have HN := Lib.hid hn
    have HI := fun W (hT : Tab W) => Lib.hid (hint W hT)
    have HL := fun W g (hg : g = W.heap.size) (hW : PrAt B b l W) (hBW : B ≤ W.heap.size) => Lib.hid (line2 B b l sw si W g hg hW hBW hlen)
    clear hk hn hlen hword hint hsi
    go_enter Tryz.func32, Tryz.ntmps32
    go_wp2_with (first | (go_at_call 47; refine (HW _).out.mono ?_; rintro r w1 ⟨rfl, rfl⟩; rw [HN.out]) | (go_at_call 30; refine (HI _ htA).out.mono ?_; rintro r w1 ⟨rfl, hb1⟩) | (go_at_call 29; (with_reducible refine (HL _ _ rfl (PrAt.ext (h.alloc _) hb1) (by have := hb1.size; simp at this; omega)).out.mono ?_); rintro r w2 ⟨rfl, hp2, hb2, hk2⟩))
    go_end0
    exact ⟨rfl, hp2, (hA.trans (hb1.mono (by simp; omega))).trans hb2, (hAk.trans (Kept.of_ext hb1)).trans hk2⟩
end Go.Proofs.YtljbclkbmjjmdaaGreatDoor
