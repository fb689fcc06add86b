/- A text's ended lines, as a list: the plain part; no program in sight. -/
import Derived.Test.YtljbclkbmjjmdaaGreatDoorK
import Derived.Test.YtljbclkbmjjmdaaGreatDoorU2
import Derived.Test.YtljbclkbmjjmdaaGreatDoorMR7
import Derived.Test.YtljbclkbmjjmdaaGreatDoorA
namespace Go.Proofs.YtljbclkbmjjmdaaGreatDoor
open Go.RowKit Go.Lib
/-- A text's ended lines, and what stands behind the last one's end. -/
def Lines (l : List UInt8) (ls : List (List UInt8)) (rest : List UInt8) : Prop := wordsL 10 l = ls ++ [rest]
theorem lines_nil {l rest : List UInt8} (h : Lines l [] rest) : l = rest ∧ ∀ a b, ¬ Cut10 l a b := by
  have e := words_eq h
  have hn := (words_back 10 l).2
  rw [h] at hn
  have h10 : (10 : UInt8) ∉ rest := hn rest (by simp)
  have el : l = rest := by rw [e]; simp [joinC]
  refine ⟨el, fun a b hc => h10 ?_⟩
  rw [← el, hc.1]
  simp
theorem lines_cons {l a rest : List UInt8} {ls : List (List UInt8)} (h : Lines l (a :: ls) rest) : ∃ b, Cut10 l a b ∧ Lines b ls rest := by
  have e := words_eq h
  have hn := (words_back 10 l).2
  rw [h] at hn
  have hne : ls ++ [rest] ≠ [] := by simp
  rw [List.cons_append, joinC_cons _ _ _ hne] at e
  exact ⟨_, ⟨e, hn a (by simp)⟩, wordsL_join hne fun x hx => hn x (by simp only [List.cons_append, List.mem_cons]; exact .inr hx)⟩
def headT (ls : List (List UInt8)) : List UInt8 := ls.flatMap fun a => a ++ [10]
theorem heads_ls : ∀ (k : Nat) {l rest : List UInt8} {ls : List (List UInt8)}, Lines l ls rest → ∃ t, Heads k l (headT (ls.take k)) t ∧ Lines t (ls.drop k) rest
  | 0, l, rest, ls, h => ⟨l, by simpa [headT] using Heads.stop l, h⟩
  | k + 1, l, rest, [], h => ⟨l, by simpa [headT] using Heads.short k l (lines_nil h).2, by simpa using h⟩
  | k + 1, l, rest, a :: ls, h => by
    obtain ⟨b, hc, hb⟩ := lines_cons h
    obtain ⟨t, h1, h2⟩ := heads_ls k hb
    refine ⟨t, ?_, by simpa using h2⟩
    have := Heads.line k l a b _ t hc h1
    simpa [headT] using this
theorem itoa_digit (m : Int) (h : 0 ≤ m) (h9 : m < 10) : itoa m = [UInt8.ofNat (48 + m.toNat)] := by
  unfold itoa
  rw [if_neg (by omega), decDigits, dif_pos (by omega)]
/-- The workers' line, byte by byte. -/
theorem work_one {a : List UInt8} {c : UInt8} (h : wordsL 32 a = [workersWord, [c]]) (h1 : 49 ≤ c.toNat) (h8 : c.toNat ≤ 56) : WorkIs a ((c.toNat : Int) - 48) := by
  refine ⟨[c], h, ?_, by omega, by omega⟩
  have hc : c.toNat = 49 ∨ c.toNat = 50 ∨ c.toNat = 51 ∨ c.toNat = 52 ∨ c.toNat = 53 ∨ c.toNat = 54 ∨ c.toNat = 55 ∨ c.toNat = 56 := by omega
  rcases hc with e | e | e | e | e | e | e | e
  · obtain rfl : c = 49 := UInt8.toNat_inj.1 e
    rw [show ((UInt8.toNat 49 : Nat) : Int) - 48 = 1 by decide]
    exact ⟨by rw [Wf.i64]; decide, by rw [itoa_digit _ (by decide) (by decide)]; rfl, by decide⟩
  · obtain rfl : c = 50 := UInt8.toNat_inj.1 e
    rw [show ((UInt8.toNat 50 : Nat) : Int) - 48 = 2 by decide]
    exact ⟨by rw [Wf.i64]; decide, by rw [itoa_digit _ (by decide) (by decide)]; rfl, by decide⟩
  · obtain rfl : c = 51 := UInt8.toNat_inj.1 e
    rw [show ((UInt8.toNat 51 : Nat) : Int) - 48 = 3 by decide]
    exact ⟨by rw [Wf.i64]; decide, by rw [itoa_digit _ (by decide) (by decide)]; rfl, by decide⟩
  · obtain rfl : c = 52 := UInt8.toNat_inj.1 e
    rw [show ((UInt8.toNat 52 : Nat) : Int) - 48 = 4 by decide]
    exact ⟨by rw [Wf.i64]; decide, by rw [itoa_digit _ (by decide) (by decide)]; rfl, by decide⟩
  · obtain rfl : c = 53 := UInt8.toNat_inj.1 e
    rw [show ((UInt8.toNat 53 : Nat) : Int) - 48 = 5 by decide]
    exact ⟨by rw [Wf.i64]; decide, by rw [itoa_digit _ (by decide) (by decide)]; rfl, by decide⟩
  · obtain rfl : c = 54 := UInt8.toNat_inj.1 e
    rw [show ((UInt8.toNat 54 : Nat) : Int) - 48 = 6 by decide]
    exact ⟨by rw [Wf.i64]; decide, by rw [itoa_digit _ (by decide) (by decide)]; rfl, by decide⟩
  · obtain rfl : c = 55 := UInt8.toNat_inj.1 e
    rw [show ((UInt8.toNat 55 : Nat) : Int) - 48 = 7 by decide]
    exact ⟨by rw [Wf.i64]; decide, by rw [itoa_digit _ (by decide) (by decide)]; rfl, by decide⟩
  · obtain rfl : c = 56 := UInt8.toNat_inj.1 e
    rw [show ((UInt8.toNat 56 : Nat) : Int) - 48 = 8 by decide]
    exact ⟨by rw [Wf.i64]; decide, by rw [itoa_digit _ (by decide) (by decide)]; rfl, by decide⟩
theorem work_only {a : List UInt8} {m : Int} (h : WorkIs a m) : ∃ c, wordsL 32 a = [workersWord, [c]] ∧ 49 ≤ c.toNat ∧ c.toNat ≤ 56 := by
  obtain ⟨x, hw, hn, h1, h8⟩ := h
  have hc : m = 1 ∨ m = 2 ∨ m = 3 ∨ m = 4 ∨ m = 5 ∨ m = 6 ∨ m = 7 ∨ m = 8 := by omega
  have hx := hn.2.1
  rcases hc with rfl | rfl | rfl | rfl | rfl | rfl | rfl | rfl
  · exact ⟨49, by rw [hw, hx, itoa_digit _ (by decide) (by decide)]; rfl, by decide, by decide⟩
  · exact ⟨50, by rw [hw, hx, itoa_digit _ (by decide) (by decide)]; rfl, by decide, by decide⟩
  · exact ⟨51, by rw [hw, hx, itoa_digit _ (by decide) (by decide)]; rfl, by decide, by decide⟩
  · exact ⟨52, by rw [hw, hx, itoa_digit _ (by decide) (by decide)]; rfl, by decide, by decide⟩
  · exact ⟨53, by rw [hw, hx, itoa_digit _ (by decide) (by decide)]; rfl, by decide, by decide⟩
  · exact ⟨54, by rw [hw, hx, itoa_digit _ (by decide) (by decide)]; rfl, by decide, by decide⟩
  · exact ⟨55, by rw [hw, hx, itoa_digit _ (by decide) (by decide)]; rfl, by decide, by decide⟩
  · exact ⟨56, by rw [hw, hx, itoa_digit _ (by decide) (by decide)]; rfl, by decide, by decide⟩
end Go.Proofs.YtljbclkbmjjmdaaGreatDoor
/- The walk of the reference's head. -/
namespace Go.Proofs.YtljbclkbmjjmdaaGreatDoor
open Go.RowKit Go.Shelf
theorem headT_snoc (ls : List (List UInt8)) (a : List UInt8) : headT (ls ++ [a]) = headT ls ++ (a ++ [10]) := by simp [headT]
theorem headT_step {ls : List (List UInt8)} {k : Nat} (h : k < ls.length) (h6 : k < 6) : headT ((ls.take (k + 1)).take 6) = headT ((ls.take k).take 6) ++ (ls[k] ++ [10]) := by
  rw [List.take_take, List.take_take, Nat.min_eq_right (by omega), Nat.min_eq_right (by omega), List.take_succ_eq_append_getElem h, headT_snoc]
theorem headT_stay {ls : List (List UInt8)} {k : Nat} (h6 : ¬ k < 6) : headT ((ls.take (k + 1)).take 6) = headT ((ls.take k).take 6) := by
  rw [List.take_take, List.take_take, Nat.min_eq_left (by omega), Nat.min_eq_left (by omega)]
theorem headT_take (ls : List (List UInt8)) (k : Nat) : (headT (ls.take k)).length ≤ (headT ls).length := by
  have e : headT ls = headT (ls.take k) ++ headT (ls.drop k) := by unfold headT; rw [← List.flatMap_append, List.take_append_drop]
  rw [e, List.length_append]
  omega
theorem headT_take6 (ls : List (List UInt8)) (k : Nat) : (headT ((ls.take k).take 6)).length ≤ (headT ls).length := Nat.le_trans (headT_take _ _) (headT_take _ _)
theorem strs_at {B : Nat} {W : World} {A : Option Addr} {c n : Nat} {ls : List (List UInt8)} (h : W.ownsRow B 9 1 (.slice A n c) n (ls.map strV)) (k : Nat) (hk : k < ls.length) : ∃ g, A = some ⟨g, 0, none⟩ ∧ g < W.heap.size ∧ W.cell? ⟨g, k, none⟩ = some (strV ls[k]) := by
  have hl := h.1
  rw [List.length_map] at hl
  rcases h.2 with ⟨_, h0⟩ | ⟨g, cap, cur, hv, hg, hh, hr⟩
  · omega
  · have hA : A = some ⟨g, 0, none⟩ := by injection hv
    subst hA
    refine ⟨g, rfl, (Array.getElem?_eq_some_iff.1 hh).1, ?_⟩
    have ha : (⟨g, 0, none⟩ : Addr).add k = ⟨g, k, none⟩ := by unfold Addr.add; split <;> simp_all
    have := h.cells (g := g) rfl k (strV ls[k]) (by simp [hk])
    rwa [ha] at this
theorem strings_B {P : Program} {w : World} {B : Nat} {e : TypeId} {v : Value} {L : List UInt8} (h : RowB w B e v L.length (Lib.byteCells L)) (src dst : TypeId) (hs : P.underlying src = some (.slice e)) (he : P.underlying e = some (.int .u8)) (hd : P.underlying dst = some .string) :
    (convert src dst v).run P w = .ok (.string ⟨L.toArray⟩) w := by
  obtain ⟨_, g, cap, cur, fz, rfl, _, hg, _, hn, _, hcs, htake⟩ := h
  refine run_convert_bytes_back w src dst e ⟨g, 0, none⟩ cap L hs he hd fun j hj => ?_
  have hadd : (⟨g, 0, none⟩ : Addr).add j = ⟨g, j, none⟩ := by unfold Addr.add; split <;> simp_all
  rw [hadd, cell_of_row w g j cur e fz hg]
  have h1 : (cur.toList.take L.length)[j]? = (Lib.byteCells L)[j]? := by rw [htake]
  rw [List.getElem?_take, if_pos hj] at h1
  rw [← Array.getElem?_toList, h1]
  simp [Lib.byteCells, hj]
theorem cellsApp (L M : List UInt8) : Lib.byteCells L ++ Lib.byteCells M = Lib.byteCells (L ++ M) := (Lib.byteCells_append L M).symm
theorem byteInfo : (Tryz.prog.info? 5).map (fun i => (i.zero, i.size, i.bytes)) = some (some (.int .u8 0), 1, 1) := by kernel_rfl
theorem parse13_lit (L : List UInt8) (hs : L.length < 4294967281) (w : World) : Calls Tryz.prog 48 #[.string ⟨L.toArray⟩] w fun e w' => ∃ x f n, e = .returned (.tuple #[.agg #[.int .i64 x.groups, .int .i64 x.size, .int .i64 x.slide, .int .i64 x.fold, .int .i64 x.fuel, .int .i64 x.limit, .int .i64 x.delay, .int .i64 x.idle], .int .i64 f, .int .i64 n]) ∧ JobRun 1 L zeroJ x f n ∧ Below w.heap.size w w' := parse13 ⟨L.toArray⟩ (by rw [mk_size]; exact hs) w
set_option maxHeartbeats 2000000 in
set_option maxRecDepth 100000 in
theorem head24 (ls : List (List UInt8)) (B : Nat) (v : Value) (w : World) (hrow : w.ownsRow B 9 1 v ls.length (ls.map strV)) (hN : (headT ls).length < 4294967281) (hn : ls.length < 4294967281) : Calls Tryz.prog 21 #[v] w (JobPost (headT (ls.take 6)) w) := by
  obtain ⟨A, c, rfl⟩ := row_valR hrow
  obtain ⟨fs, hu⟩ := job_struct
  obtain ⟨i0, hi, hy0, hy1, hy2⟩ := info_parts byteInfo
  have HROW := Lib.hid hrow
  clear hrow
  go_enter Tryz.func21, Tryz.ntmps21
  go_wp2_with fail
  go_loopw [5, 11] (fun v5 v11 wr => ∃ (k : Nat) (M : List UInt8), k ≤ ls.length ∧ v11 = .int .i64 k ∧ Hid (M = headT ((ls.take k).take 6)) ∧ RowB wr (w.heap.size + 1) 5 v5 M.length (Lib.byteCells M) ∧ Hid (ResJ w.heap.size wr) ∧ Below w.heap.size w wr) (fun _ v11 _ => ls.length - (intOf v11).toNat)
  case atStart =>
    refine ⟨0, [], Nat.zero_le _, rfl, Lib.hid rfl, ⟨rfl, _, 0, #[], (0, 0), rfl, ?_, heap_alloc_new' (by simp) _, by simp, Nat.le_refl _, by unfold maxLen; omega, rfl, rfl⟩, Lib.hid (heap_alloc_keep _ (heap_alloc_new w _)), by (repeat (first | exact Below.refl _ _ | assumption | refine ext_alloc ?_ _ | refine below_drewN ?_ _ | refine ext_drew ?_ | (refine below_tr ?_ (by assumption))))⟩
    simp
  case round =>
   obtain ⟨k, M, hk, rfl, hM, hrw, hres, hb⟩ := hrel
   have hML : M.length < 4294967281 := by rw [hM.out]; have := headT_take6 ls k; omega
   have hsz := hb.size
   have hrz : w.heap.size + 1 ≤ wr.heap.size := (Array.getElem?_eq_some_iff.1 hres.out).1
   by_cases hlt : k < ls.length
   · obtain ⟨g, rfl, hg, hc⟩ := strs_at HROW.out k hlt
     have f0 : wr.cell? ⟨g, k, none⟩ = some (strV ls[k]) := ((bcell hb).1 _ _ hg).trans hc
     obtain ⟨X, hX⟩ : ∃ X : ByteArray, X = ⟨(ls[k]).toArray⟩ := ⟨_, rfl⟩
     rw [show strV ls[k] = .string X by rw [hX]; rfl] at f0
     have HX := Lib.hid hX
     clear hX hc
     by_cases h6 : k < 6
     · have HST := Lib.hid (headT_step hlt h6)
       obtain ⟨S, hS⟩ : ∃ S, S = X ++ ByteArray.mk #[10] := ⟨_, rfl⟩
       have hSd : S.data.toList = ls[k] ++ [10] := by rw [hS, HX.out]; simp [ByteArray.data_append]
       have hSz : S.size = (ls[k] ++ [10]).length := by rw [← hSd]; exact (bytesL_length S).symm
       have hMS : M.length + S.size < 4294967281 := by
         rw [hSz, ← List.length_append, hM.out, ← HST.out]
         have := headT_take6 ls (k + 1)
         omega
       have hXs : X.size < 4294967281 := by
         have h1 : S.size = X.size + 1 := by rw [hS, ByteArray.size_append]; rfl
         omega
       have HS := Lib.hid (And.intro hSd hSz)
       have HSX := Lib.hid hS
       clear hSd hSz hS
       go_wp2_with (at_builtin; rw [← HSX.out]; refine wpList_string_B rfl _ _ 64 9 rfl (w.heap.size + 1) 5 i0 Tryz.underlying64 Tryz.underlying9 hi hy0 hy1 hy2 _ M.length (Lib.byteCells M) rfl hrw S rfl (by omega) (by omega) ?_)
       intro v' w4 hrow4 hb4 _
       have hL4 : M.length + S.size = (M ++ (ls[k] ++ [10])).length := by rw [HS.out.2]; simp
       rw [strCells_bytes, HS.out.1, cellsApp, hL4] at hrow4
       have HRW := Lib.hid hrow4
       have HRES := Lib.hid (show ResJ w.heap.size w4 from (hb4.block _ (by omega)).trans hres.out)
       have hb5 : Below w.heap.size w w4 := hb.trans (hb4.mono (by omega))
       clear hL4 hrow4 hrw hb4
       go_wp2_with fail
       go_roundw
       case rel => exact ⟨k + 1, M ++ (ls[k] ++ [10]), by omega, by go_num, Lib.hid (by rw [HST.out, hM.out]), HRW.out, HRES, hb5⟩
       case measure => simp [intOf]; omega
     · have HST := Lib.hid (headT_stay (ls := ls) h6)
       go_wp2_with fail
       go_roundw
       case rel => exact ⟨k + 1, M, by omega, by go_num, Lib.hid (by rw [HST.out, hM.out]), hrw, hres, hb⟩
       case measure => simp [intOf]; omega
   · have hrun := strings_B (P := Tryz.prog) hrw 64 9 Tryz.underlying64 Tryz.underlying5 Tryz.underlying9
     have HP := fun W => Lib.hid (parse13_lit M hML W)
     have HMM := Lib.hid (show M = headT (ls.take 6) from by rw [hM.out, List.take_of_length_le (show ls.length ≤ k by omega)])
     clear hM hML
     go_wp2_with (go_at_call 48; (with_reducible refine (HP _).out.mono ?_))
     rintro e w2 ⟨x, f, n, rfl, hj, hb2⟩
     have HRES2 := Lib.hid (hres.out.mono hb2)
     have hby := below_tr hb hb2
     have HJ := Lib.hid hj
     clear hj hb2 hrw hb hres hrun
     obtain ⟨d0, u0⟩ := res_cells HRES2.out 0 (by decide)
     obtain ⟨d1, u1⟩ := res_cells HRES2.out 1 (by decide)
     obtain ⟨d2, u2⟩ := res_cells HRES2.out 2 (by decide)
     obtain ⟨d3, u3⟩ := res_cells HRES2.out 3 (by decide)
     obtain ⟨d4, u4⟩ := res_cells HRES2.out 4 (by decide)
     obtain ⟨d5, u5⟩ := res_cells HRES2.out 5 (by decide)
     obtain ⟨d6, u6⟩ := res_cells HRES2.out 6 (by decide)
     obtain ⟨d7, u7⟩ := res_cells HRES2.out 7 (by decide)
     go_wp2_with fail
     refine bodyPost_ret (results_cell_tmp2_row rfl _ _ w.heap.size _ (jbCells x) (0, 0) (.struct fs) rfl (job_ret x HRES2.out) hu rfl job_info) rfl ?_
     exact ⟨x, f, n, rfl, by rw [← HMM.out]; exact HJ.out, by (repeat (with_reducible refine ext_setCell ?_ (Nat.le_refl _) _)); exact hby⟩
end Go.Proofs.YtljbclkbmjjmdaaGreatDoor
