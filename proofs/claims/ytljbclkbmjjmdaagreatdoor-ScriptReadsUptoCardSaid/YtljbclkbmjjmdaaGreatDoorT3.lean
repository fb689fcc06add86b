/- The printer's lines. -/
import Derived.Test.YtljbclkbmjjmdaaGreatDoorB
import Derived.Test.YtljbclkbmjjmdaaGreatDoorT1
import Derived.Test.YtljbclkbmjjmdaaGreatDoorS3
namespace Go.Proofs.YtljbclkbmjjmdaaGreatDoor
open Go.RowKit Go.Shelf

def sepL (ss : List (List UInt8)) : List UInt8 := ss.flatMap fun s => 32 :: s
/-- Words with blanks between them. -/
def joinL (ss : List (List UInt8)) : List UInt8 := (sepL ss).drop 1
def lineL (ss : List (List UInt8)) : List UInt8 := joinL ss ++ [10]
def bytesL (s : ByteArray) : List UInt8 := s.data.toList
theorem bytesL_length (s : ByteArray) : (bytesL s).length = s.size := by unfold bytesL; rw [Array.length_toList]; rfl
theorem bytesL_mk (l : List UInt8) : bytesL (ByteArray.mk l.toArray) = l := by simp [bytesL]
theorem joinL_one (s : List UInt8) : joinL [s] = s := by simp [joinL, sepL]
theorem joinL_snoc (ss : List (List UInt8)) (s : List UInt8) (h : ss ≠ []) : joinL (ss ++ [s]) = joinL ss ++ 32 :: s := by
  obtain ⟨a, r, rfl⟩ := List.exists_cons_of_ne_nil h
  simp [joinL, sepL]
theorem joinL_mono (ss : List (List UInt8)) (k : Nat) : (joinL (ss.take k)).length ≤ (joinL ss).length := by
  have h : (sepL ss).length = (sepL (ss.take k)).length + (sepL (ss.drop k)).length := by
    rw [← List.length_append]; unfold sepL; rw [← List.flatMap_append, List.take_append_drop]
  unfold joinL
  rw [List.length_drop, List.length_drop]
  omega
theorem take_ne {α β : Type} (f : α → β) (ss : List α) (k : Nat) (h0 : k ≠ 0) (hk : k < ss.length) : (ss.map f).take k ≠ [] := by
  intro e
  have := congrArg List.length e
  rw [List.length_take, List.length_map, List.length_nil] at this
  omega
theorem joinL_size (ss : List ByteArray) (k : Nat) (hk : k < ss.length) : (joinL ((ss.map bytesL).take k)).length + ss[k].size + (if k = 0 then 0 else 1) ≤ (joinL (ss.map bytesL)).length := by
  have htk : (ss.map bytesL).take (k + 1) = (ss.map bytesL).take k ++ [bytesL ss[k]] := by
    rw [List.take_succ_eq_append_getElem (by simpa using hk)]; simp
  have := joinL_mono (ss.map bytesL) (k + 1)
  rw [htk] at this
  rw [← bytesL_length]
  by_cases h0 : k = 0
  · subst h0
    have e : (ss.map bytesL).take 0 = [] := rfl
    rw [e] at this ⊢
    rw [List.nil_append, joinL_one] at this
    simpa [joinL, sepL] using this
  · rw [joinL_snoc _ _ (take_ne _ _ _ h0 hk)] at this
    simp [h0] at this ⊢
    omega
theorem row_kept {B0 b n : Nat} {v : Value} {xs : List Value} {cs : Array Value} {w w' : World} (h : w.ownsRow B0 9 1 v n xs) (hb : w.heap[b]? = some (.cells cs 68 (0, 0))) (hk : Kept b w w') : w'.ownsRow B0 9 1 v n xs := by
  refine ⟨h.1, ?_⟩
  rcases h.2 with hn | ⟨g, cap, cur, hv, hg, hh, r⟩
  · exact .inl hn
  · refine .inr ⟨g, cap, cur, hv, hg, ?_, r⟩
    refine hk g _ hh (fun e => ?_) (fun c fz e => ?_)
    · have : g = b := Option.some.inj e
      subst this
      rw [hh] at hb
      have := Option.some.inj hb
      injection this with _ ht
      exact absurd ht (by decide)
    · injection e with _ ht
      exact absurd ht (by decide)
theorem PrAt.block {B b : Nat} {l : List UInt8} {w : World} (h : PrAt B b l w) : ∃ cs, w.heap[b]? = some (.cells cs 68 (0, 0)) := by
  rcases h with ⟨_, v, hb, _⟩ | ⟨_, v, hb, _⟩ <;> exact ⟨_, hb⟩
theorem row_slice {w : World} {B0 n : Nat} {v : Value} {xs : List Value} (h : w.ownsRow B0 9 1 v n xs) : ∃ A c, v = .slice A n c := by
  rcases h.2 with ⟨rfl, rfl⟩ | ⟨g, cap, cur, rfl, _⟩
  · exact ⟨none, 0, rfl⟩
  · exact ⟨_, cap, rfl⟩
theorem row_cell {w : World} {B0 : Nat} {A : Option Addr} {c : Nat} {ss : List ByteArray} (h : w.ownsRow B0 9 1 (.slice A ss.length c) ss.length (ss.map .string)) (k : Nat) (hk : k < ss.length) : ∃ g, A = some ⟨g, 0, none⟩ ∧ w.cell? ⟨g, k, none⟩ = some (.string ss[k]) := by
  rcases h.2 with ⟨_, h0⟩ | ⟨g, cap, cur, hv, _⟩
  · omega
  · have hA : A = some ⟨g, 0, none⟩ := by injection hv
    subst hA
    refine ⟨g, rfl, ?_⟩
    have ha : (⟨g, 0, none⟩ : Addr).add k = ⟨g, k, none⟩ := by unfold Addr.add; split <;> simp_all
    have := h.cells (g := g) rfl k (.string ss[k]) (by simp [hk])
    rwa [ha] at this
set_option maxHeartbeats 1000000 in
theorem line_calls (B b B0 : Nat) (l : List UInt8) (v : Value) (ss : List ByteArray) (w : World) (h : PrAt B b l w) (hB : B ≤ w.heap.size) (hrow : w.ownsRow B0 9 1 v ss.length (ss.map .string))
    (hlen : l.length + (lineL (ss.map bytesL)).length ≤ 140737488355328) (hss : ss.length ≤ 1000000) :
    Calls Tryz.prog 29 #[.pointer (some ⟨b, 0, none⟩), v] w fun e w' => e = .returned (.tuple #[]) ∧ PrAt B b (l ++ lineL (ss.map bytesL)) w' ∧ Below B w w' ∧ Kept b w w' := by
  obtain ⟨A, c, rfl⟩ := row_slice hrow
  obtain ⟨cs, hbk⟩ := h.block
  have hlen' : l.length + (joinL (ss.map bytesL)).length + 1 ≤ 140737488355328 := by unfold lineL at hlen; simp at hlen; omega
  have HB := Lib.hid hbk
  clear hbk hlen
  go_enter Tryz.func29, Tryz.ntmps29
  go_wp2_with fail
  go_loopw [8] (fun v8 wr => ∃ k : Nat, k ≤ ss.length ∧ v8 = .int .i64 k ∧ PrAt B b (l ++ joinL ((ss.map bytesL).take k)) wr ∧ Below B w wr ∧ Kept b w wr) (fun v8 _ => ss.length - (intOf v8).toNat)
  case atStart => exact ⟨0, Nat.zero_le _, rfl, by simpa [joinL, sepL] using h, Below.refl _ _, Lib.OthersKept.refl _ _ _⟩
  case round =>
   obtain ⟨k, hk, rfl, hp, hb, hkp⟩ := hrel
   have hBr : B ≤ wr.heap.size := Nat.le_trans hB hb.size
   have hjm := joinL_mono (ss.map bytesL) k
   by_cases hlt : k < ss.length
   · obtain ⟨g, rfl, e0⟩ := row_cell (row_kept hrow HB.out hkp) k hlt
     have htk : (ss.map bytesL).take (k + 1) = (ss.map bytesL).take k ++ [bytesL ss[k]] := by
       rw [List.take_succ_eq_append_getElem (by simpa using hlt)]; simp
     have HT := Lib.hid htk
     have HS := Lib.hid (joinL_size ss k hlt)
     clear htk hrow h
     by_cases h0 : k = 0
     · subst h0
       have hw1 := fun W (hW : PrAt B b (l ++ joinL ((ss.map bytesL).take 0)) W) (hBW : B ≤ W.heap.size) => Lib.hid (write_string B b _ ss[0] W hW (by have := HS.out; rw [if_pos rfl] at this; rw [List.length_append]; omega) hBW)
       go_wp2_with (go_at_call 28; refine (hw1 _ hp hBr).out.mono ?_; rintro r w1 ⟨rfl, hp1, hb1, hk1⟩)
       go_roundw
       case rel => exact ⟨1, by omega, by go_num, by rw [HT.out]; simpa [joinL, sepL, bytesL] using hp1, hb.trans hb1, hkp.trans hk1⟩
       case measure => simp [intOf]; omega
     · have hk0 : (0 : Int) < (k : Int) := by omega
       have hw1 := fun W (hW : PrAt B b (l ++ joinL ((ss.map bytesL).take k)) W) (hBW : B ≤ W.heap.size) => Lib.hid (write_byte B b _ 32 W hW (by have := HS.out; rw [if_neg h0] at this; rw [List.length_append]; omega) hBW)
       have hw2 := fun W (hW : PrAt B b (l ++ joinL ((ss.map bytesL).take k) ++ [32]) W) (hBW : B ≤ W.heap.size) => Lib.hid (write_string B b _ ss[k] W hW (by have := HS.out; rw [if_neg h0] at this; rw [List.length_append, List.length_append, List.length_singleton]; omega) hBW)
       go_wp2_with (first | (go_at_call 58; refine (hw1 _ hp hBr).out.mono ?_; rintro r w1 ⟨rfl, hp1, hb1, hk1⟩) | (go_at_call 28; refine (hw2 _ hp1 (Nat.le_trans hBr hb1.size)).out.mono ?_; rintro r w2 ⟨rfl, hp2, hb2, hk2⟩))
       go_roundw
       case rel => exact ⟨k + 1, by omega, by go_num, by rw [HT.out, joinL_snoc _ _ (take_ne _ _ _ h0 hlt)]; simpa [bytesL] using hp2, (hb.trans hb1).trans hb2, (hkp.trans hk1).trans hk2⟩
       case measure => simp [intOf]; omega
   · have hall : (ss.map bytesL).take k = ss.map bytesL := List.take_of_length_le (by simp; omega)
     rw [hall] at hp
     have hw1 := fun W (hW : PrAt B b (l ++ joinL (ss.map bytesL)) W) (hBW : B ≤ W.heap.size) => Lib.hid (write_byte B b _ 10 W hW (by simp; omega) hBW)
     clear hall h hrow
     go_wp2_with (go_at_call 58; refine (hw1 _ hp hBr).out.mono ?_; rintro r w1 ⟨rfl, hp1, hb1, hk1⟩)
     go_end0
     exact ⟨rfl, by simpa [lineL] using hp1, hb.trans hb1, hkp.trans hk1⟩
end Go.Proofs.YtljbclkbmjjmdaaGreatDoor
