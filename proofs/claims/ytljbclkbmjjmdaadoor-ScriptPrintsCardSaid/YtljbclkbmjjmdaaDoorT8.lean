/- A plan's text, as the reference writes it. -/
import Derived.Test.YtljbclkbmjjmdaaDoorA
import Derived.Test.YtljbclkbmjjmdaaDoorT6
namespace Go.Proofs.YtljbclkbmjjmdaaDoor
open Go.RowKit Go.Shelf
def textSlot (w : World) (p : Pl) (sj sw : ByteArray) (t : Tmp) (_ : World) (v : Value) : Prop :=
  match t with
  | 1 => v = .pointer (some ⟨w.heap.size, 0, none⟩)
  | 10 => v = .pointer (some ⟨w.heap.size, 0, none⟩)
  | 11 => v = .agg #[.int .i64 p.job.groups, .int .i64 p.job.size, .int .i64 p.job.slide, .int .i64 p.job.fold, .int .i64 p.job.fuel, .int .i64 p.job.limit, .int .i64 p.job.delay, .int .i64 p.job.idle]
  | 12 => v = .string sj
  | 13 => v = .string (sj ++ ByteArray.mk #[119, 111, 114, 107, 101, 114, 115, 32])
  | 14 => v = .pointer (some ⟨w.heap.size, 9, none⟩)
  | 15 => v = .int .i64 p.workers
  | 16 => v = .string sw
  | 17 => v = .string (sj ++ ByteArray.mk #[119, 111, 114, 107, 101, 114, 115, 32] ++ sw)
  | 18 => v = .string (sj ++ ByteArray.mk #[119, 111, 114, 107, 101, 114, 115, 32] ++ sw ++ ByteArray.mk #[10])
  | _ => True
def evSlot (v3 : Value) (g6 : Nat) (e : Ev) (sa sv : ByteArray) (t : Tmp) (_ : World) (v : Value) : Prop :=
  match t with
  | 3 => v = v3
  | 7 => v = .pointer (some ⟨g6, 0, none⟩)
  | 35 => v = v3
  | 36 => v = .pointer (some ⟨g6, 0, none⟩)
  | 37 => v = .string e.key
  | 38 => v = .string (ByteArray.mk #[32] ++ e.key)
  | 39 => v = .string (ByteArray.mk #[32] ++ e.key ++ ByteArray.mk #[64])
  | 40 => v = .pointer (some ⟨g6, 1, none⟩)
  | 41 => v = .int .i64 e.at_
  | 42 => v = .string sa
  | 43 => v = .string (ByteArray.mk #[32] ++ e.key ++ ByteArray.mk #[64] ++ sa)
  | 44 => v = .string (ByteArray.mk #[32] ++ e.key ++ ByteArray.mk #[64] ++ sa ++ ByteArray.mk #[58])
  | 45 => v = .pointer (some ⟨g6, 2, none⟩)
  | 46 => v = .int .i64 e.val
  | 47 => v = .string sv
  | 48 => v = .string (ByteArray.mk #[32] ++ e.key ++ ByteArray.mk #[64] ++ sa ++ ByteArray.mk #[58] ++ sv)
  | _ => True

theorem RowB.string {P : Program} {w : World} {B : Nat} {e : TypeId} {v : Value} {L : List UInt8} (h : RowB w B e v L.length (Lib.byteCells L)) (src dst : TypeId) (hs : P.underlying src = some (.slice e)) (he : P.underlying e = some (.int .u8)) (hd : P.underlying dst = some .string) :
    (convert src dst v).run P w = .ok (.string ⟨L.toArray⟩) w := by
  obtain ⟨_, g, cap, cur, fz, rfl, _, hg, _, hn, _, hcs, htake⟩ := h
  refine run_convert_bytes_back w src dst e ⟨g, 0, none⟩ cap L hs he hd fun j hj => ?_
  have hadd : (⟨g, 0, none⟩ : Addr).add j = ⟨g, j, none⟩ := by unfold Addr.add; split <;> simp_all
  rw [hadd, cell_of_row w g j cur e fz hg]
  have h1 : (cur.toList.take L.length)[j]? = (Lib.byteCells L)[j]? := by rw [htake]
  rw [List.getElem?_take, if_pos hj] at h1
  rw [← Array.getElem?_toList, h1]
  simp [Lib.byteCells, hj]
theorem cells_app (L M : List UInt8) : Lib.byteCells L ++ Lib.byteCells M = Lib.byteCells (L ++ M) := (Lib.byteCells_append L M).symm
def headL (p : Pl) : List UInt8 := jobL p.job ++ lineL [workersWord, Lib.itoa p.workers]
theorem sourceL_eq (s : List Ev) : sourceL s = srcWord ++ (s.flatMap fun e => 32 :: evL e) ++ [10] := by
  unfold sourceL lineL joinL sepL
  simp [List.flatMap_map, srcWord]
set_option maxHeartbeats 600000 in
set_option maxRecDepth 100000 in
theorem text_ref (p : Pl) (hp : planB p = true) (hw : PlWf p) (vi va : Value) (w : World) (hi : Sl 1 rIn w vi p.inputs) (ha : Sl 3 rAc w va p.acts) (ht : Tab w) :
    Calls Tryd.prog 8 #[.agg #[.int .i64 p.job.groups, .int .i64 p.job.size, .int .i64 p.job.slide, .int .i64 p.job.fold, .int .i64 p.job.fuel, .int .i64 p.job.limit, .int .i64 p.job.delay, .int .i64 p.job.idle, vi, .int .i64 p.workers, va]] w fun e w' => e = .returned (.string ⟨(planL p).toArray⟩) ∧ Below w.heap.size w w' := by
  obtain ⟨q1, q2, q3, q4⟩ := planB_inputs hp
  obtain ⟨l1, l2, l3, l4⟩ := planL_len p hw hp
  have HL := Lib.hid (show (jobL p.job).length ≤ 300 ∧ (lineL [workersWord, Lib.itoa p.workers]).length ≤ 43 ∧ (p.inputs.flatMap sourceL).length ≤ 48000 ∧ (p.acts.flatMap actL).length ≤ 17200 from ⟨l1, l2, l3, l4⟩)
  obtain ⟨sj, hsj⟩ : ∃ sj, sj = ByteArray.mk (jobL p.job).toArray := ⟨_, rfl⟩
  obtain ⟨sw, hsw⟩ : ∃ sw, sw = ByteArray.mk (Lib.itoa p.workers).toArray := ⟨_, rfl⟩
  have hjt := fun W (hT : Tab W) => job_text p.job hw.job (jobB_fold q4) W hT
  have hwt := fun W (hT : Tab W) => itoa_int p.workers hw.workers W hT
  rw [← hsj] at hjt
  rw [← hsw] at hwt
  have HT := Lib.hid (show (∀ W, Tab W → Calls Tryd.prog 29 #[.agg #[.int .i64 p.job.groups, .int .i64 p.job.size, .int .i64 p.job.slide, .int .i64 p.job.fold, .int .i64 p.job.fuel, .int .i64 p.job.limit, .int .i64 p.job.delay, .int .i64 p.job.idle]] W fun e w' => e = .returned (.string sj) ∧ Below W.heap.size W w') ∧ (∀ W, Tab W → Calls Tryd.prog 12 #[.int .i64 p.workers] W fun e w' => e = .returned (.string sw) ∧ Below W.heap.size W w') from ⟨hjt, hwt⟩)
  have HS := Lib.hid (show sj = ByteArray.mk (jobL p.job).toArray ∧ sw = ByteArray.mk (Lib.itoa p.workers).toArray from ⟨hsj, hsw⟩)
  have z1 : sj.size ≤ 300 := by rw [hsj, mk_size]; exact l1
  have z2 : sw.size ≤ 20 := by rw [hsw, mk_size]; exact itoa_len _ hw.workers
  obtain ⟨W0, hW0⟩ : ∃ W0, W0 = w.alloc (.cells #[.int .i64 p.job.groups, .int .i64 p.job.size, .int .i64 p.job.slide, .int .i64 p.job.fold, .int .i64 p.job.fuel, .int .i64 p.job.limit, .int .i64 p.job.delay, .int .i64 p.job.idle, vi, .int .i64 p.workers, va] 27) := ⟨_, rfl⟩
  have hbx : Below w.heap.size w W0 := by rw [hW0]; exact (Below.refl _ w).alloc (Nat.le_refl _) _
  have hz0 : w.heap.size < W0.heap.size := by rw [hW0]; simp
  have k0 : W0.cell? ⟨w.heap.size, 0, none⟩ = some (.int .i64 p.job.groups) := by rw [hW0]; exact box_cell _ _ _ _ _ rfl
  have k1 : W0.cell? ⟨w.heap.size, 1, none⟩ = some (.int .i64 p.job.size) := by rw [hW0]; exact box_cell _ _ _ _ _ rfl
  have k2 : W0.cell? ⟨w.heap.size, 2, none⟩ = some (.int .i64 p.job.slide) := by rw [hW0]; exact box_cell _ _ _ _ _ rfl
  have k3 : W0.cell? ⟨w.heap.size, 3, none⟩ = some (.int .i64 p.job.fold) := by rw [hW0]; exact box_cell _ _ _ _ _ rfl
  have k4 : W0.cell? ⟨w.heap.size, 4, none⟩ = some (.int .i64 p.job.fuel) := by rw [hW0]; exact box_cell _ _ _ _ _ rfl
  have k5 : W0.cell? ⟨w.heap.size, 5, none⟩ = some (.int .i64 p.job.limit) := by rw [hW0]; exact box_cell _ _ _ _ _ rfl
  have k6 : W0.cell? ⟨w.heap.size, 6, none⟩ = some (.int .i64 p.job.delay) := by rw [hW0]; exact box_cell _ _ _ _ _ rfl
  have k7 : W0.cell? ⟨w.heap.size, 7, none⟩ = some (.int .i64 p.job.idle) := by rw [hW0]; exact box_cell _ _ _ _ _ rfl
  have k8 : W0.cell? ⟨w.heap.size, 8, none⟩ = some (vi) := by rw [hW0]; exact box_cell _ _ _ _ _ rfl
  have k9 : W0.cell? ⟨w.heap.size, 9, none⟩ = some (.int .i64 p.workers) := by rw [hW0]; exact box_cell _ _ _ _ _ rfl
  have k10 : W0.cell? ⟨w.heap.size, 10, none⟩ = some (va) := by rw [hW0]; exact box_cell _ _ _ _ _ rfl
  have htx : Tab W0 := ht.mono hbx
  have hi0 := hi.mono rIn.mono hbx
  have ha0 := ha.mono rAc.mono hbx
  have HW0 := Lib.hid hW0
  have m1 : ¬ 9223372036854775807 < sj.size + 8 := by omega
  have m2 : ¬ 9223372036854775807 < sj.size + 8 + sw.size := by omega
  have m3 : ¬ 9223372036854775807 < sj.size + 8 + sw.size + 1 := by omega
  clear hW0 hsj hsw hjt hwt ht hi ha l1 l2 l3 l4 q4
  obtain ⟨Ai, ci, rfl, hsi, hci, hmi⟩ := hi0
  obtain ⟨Aa, ca, rfl, hsa, hca, hma⟩ := ha0
  go_enter Tryd.func8, Tryd.ntmps8
  go_wp2_with fail
  rw [← HW0.out]
  refine wp_region_tail (by kernel_rfl) 9 [1] (by kernel_rfl) (fun a b => Below a.heap.size a b) (fun a b c h k => below_tr h k) (ext_drew (Below.refl _ _)) (textSlot w p sj sw) (fun t W W' v h hb => h) ?_ ?_ ?_
  · intro t ht W hW
    rcases List.mem_cons.1 ht with rfl | ht
    · exact rfl
    · cases ht
  · refine ⟨?_, ?_, ?_, ?_, ?_, ?_, ?_, ?_, ?_, trivial⟩
    · intro a W hG hk K hK
      have h1 : a.tmps.getD 1 undef = .pointer (some ⟨w.heap.size, 0, none⟩) := hk 1 (List.mem_of_elem_eq_true (by kernel_rfl))
      clear hk
      simp only [Array.getD_eq_getD_getElem?] at h1 ⊢
      go_simp
      exact hK _ _ (by rintro d ⟨⟩; rfl) (Below.refl _ _)
    · intro a W hG hk K hK
      have h10 : a.tmps.getD 10 undef = .pointer (some ⟨w.heap.size, 0, none⟩) := hk 10 (List.mem_of_elem_eq_true (by kernel_rfl))
      clear hk
      have hck0 : W.cell? ⟨w.heap.size, 0, none⟩ = some (.int .i64 p.job.groups) := ((bcell hG).1 _ _ hz0).trans k0
      have hck1 : W.cell? ⟨w.heap.size, 1, none⟩ = some (.int .i64 p.job.size) := ((bcell hG).1 _ _ hz0).trans k1
      have hck2 : W.cell? ⟨w.heap.size, 2, none⟩ = some (.int .i64 p.job.slide) := ((bcell hG).1 _ _ hz0).trans k2
      have hck3 : W.cell? ⟨w.heap.size, 3, none⟩ = some (.int .i64 p.job.fold) := ((bcell hG).1 _ _ hz0).trans k3
      have hck4 : W.cell? ⟨w.heap.size, 4, none⟩ = some (.int .i64 p.job.fuel) := ((bcell hG).1 _ _ hz0).trans k4
      have hck5 : W.cell? ⟨w.heap.size, 5, none⟩ = some (.int .i64 p.job.limit) := ((bcell hG).1 _ _ hz0).trans k5
      have hck6 : W.cell? ⟨w.heap.size, 6, none⟩ = some (.int .i64 p.job.delay) := ((bcell hG).1 _ _ hz0).trans k6
      have hck7 : W.cell? ⟨w.heap.size, 7, none⟩ = some (.int .i64 p.job.idle) := ((bcell hG).1 _ _ hz0).trans k7
      simp only [Array.getD_eq_getD_getElem?] at h10 ⊢
      go_simp
      exact hK _ _ (by rintro d ⟨⟩; rfl) (Below.refl _ _)
    · intro a W hG hk K hK
      have h11 : a.tmps.getD 11 undef = .agg #[.int .i64 p.job.groups, .int .i64 p.job.size, .int .i64 p.job.slide, .int .i64 p.job.fold, .int .i64 p.job.fuel, .int .i64 p.job.limit, .int .i64 p.job.delay, .int .i64 p.job.idle] := hk 11 (List.mem_of_elem_eq_true (by kernel_rfl))
      clear hk
      have hT : Tab W := htx.mono hG
      simp only [Array.getD_eq_getD_getElem?] at h11 ⊢
      go_simp
      refine (HT.out.1 _ hT).mono ?_
      rintro r w1 ⟨rfl, hb1⟩
      exact hK _ _ (by rintro d ⟨⟩; rfl) hb1
    · intro a W hG hk K hK
      have h12 : a.tmps.getD 12 undef = .string sj := hk 12 (List.mem_of_elem_eq_true (by kernel_rfl))
      clear hk
      simp only [Array.getD_eq_getD_getElem?] at h12 ⊢
      go_simp
      exact hK _ _ (by rintro d ⟨⟩; rfl) (Below.refl _ _)
    · intro a W hG hk K hK
      have h1 : a.tmps.getD 1 undef = .pointer (some ⟨w.heap.size, 0, none⟩) := hk 1 (List.mem_of_elem_eq_true (by kernel_rfl))
      clear hk
      simp only [Array.getD_eq_getD_getElem?] at h1 ⊢
      go_simp
      exact hK _ _ (by rintro d ⟨⟩; rfl) (Below.refl _ _)
    · intro a W hG hk K hK
      have h14 : a.tmps.getD 14 undef = .pointer (some ⟨w.heap.size, 9, none⟩) := hk 14 (List.mem_of_elem_eq_true (by kernel_rfl))
      clear hk
      have hck9 : W.cell? ⟨w.heap.size, 9, none⟩ = some (.int .i64 p.workers) := ((bcell hG).1 _ _ hz0).trans k9
      simp only [Array.getD_eq_getD_getElem?] at h14 ⊢
      go_simp
      exact hK _ _ (by rintro d ⟨⟩; rfl) (Below.refl _ _)
    · intro a W hG hk K hK
      have h15 : a.tmps.getD 15 undef = .int .i64 p.workers := hk 15 (List.mem_of_elem_eq_true (by kernel_rfl))
      clear hk
      have hT : Tab W := htx.mono hG
      simp only [Array.getD_eq_getD_getElem?] at h15 ⊢
      go_simp
      refine (HT.out.2 _ hT).mono ?_
      rintro r w1 ⟨rfl, hb1⟩
      exact hK _ _ (by rintro d ⟨⟩; rfl) hb1
    · intro a W hG hk K hK
      have h13 : a.tmps.getD 13 undef = .string (sj ++ ByteArray.mk #[119, 111, 114, 107, 101, 114, 115, 32]) := hk 13 (List.mem_of_elem_eq_true (by kernel_rfl))
      have h16 : a.tmps.getD 16 undef = .string sw := hk 16 (List.mem_of_elem_eq_true (by kernel_rfl))
      clear hk
      simp only [Array.getD_eq_getD_getElem?] at h13 h16 ⊢
      go_simp
      exact hK _ _ (by rintro d ⟨⟩; rfl) (Below.refl _ _)
    · intro a W hG hk K hK
      have h17 : a.tmps.getD 17 undef = .string (sj ++ ByteArray.mk #[119, 111, 114, 107, 101, 114, 115, 32] ++ sw) := hk 17 (List.mem_of_elem_eq_true (by kernel_rfl))
      clear hk
      simp only [Array.getD_eq_getD_getElem?] at h17 ⊢
      go_simp
      exact hK _ _ (by rintro d ⟨⟩; rfl) (Below.refl _ _)
  · intro a W hG hd hs hold hnew
    obtain rfl := frame_puts [(10, .pointer (some ⟨w.heap.size, 0, none⟩)), (11, .agg #[.int .i64 p.job.groups, .int .i64 p.job.size, .int .i64 p.job.slide, .int .i64 p.job.fold, .int .i64 p.job.fuel, .int .i64 p.job.limit, .int .i64 p.job.delay, .int .i64 p.job.idle]), (12, .string sj), (13, .string (sj ++ ByteArray.mk #[119, 111, 114, 107, 101, 114, 115, 32])), (14, .pointer (some ⟨w.heap.size, 9, none⟩)), (15, .int .i64 p.workers), (16, .string sw), (17, .string (sj ++ ByteArray.mk #[119, 111, 114, 107, 101, 114, 115, 32] ++ sw)), (18, .string (sj ++ ByteArray.mk #[119, 111, 114, 107, 101, 114, 115, 32] ++ sw ++ ByteArray.mk #[10]))] hd hs hold (by kernel_rfl) ⟨hnew 10 0 (by kernel_rfl), hnew 11 1 (by kernel_rfl), hnew 12 2 (by kernel_rfl), hnew 13 3 (by kernel_rfl), hnew 14 4 (by kernel_rfl), hnew 15 5 (by kernel_rfl), hnew 16 6 (by kernel_rfl), hnew 17 7 (by kernel_rfl), hnew 18 8 (by kernel_rfl), trivial⟩
    clear hold hnew hd hs
    obtain ⟨S, hS⟩ : ∃ S, S = sj ++ ByteArray.mk #[119, 111, 114, 107, 101, 114, 115, 32] ++ sw ++ ByteArray.mk #[10] := ⟨_, rfl⟩
    rw [← hS]
    have hSz : S.size ≤ 329 := by
      have e1 : (ByteArray.mk #[119, 111, 114, 107, 101, 114, 115, 32]).size = 8 := rfl
      have e2 : (ByteArray.mk #[10]).size = 1 := rfl
      rw [hS, ByteArray.size_append, ByteArray.size_append, ByteArray.size_append, e1, e2]; omega
    obtain ⟨v1, W1, hrun, hrow, hb1⟩ : ∃ v1 W1, (convert 9 37 (.string S)).run Tryd.prog W = .ok v1 W1 ∧ RowB W1 W0.heap.size 5 v1 S.size (Lib.strCells S) ∧ Below W.heap.size W W1 := by
      refine ⟨_, _, run_bytes_of_string W _ _ 5 S Tryd.underlying9 Tryd.underlying37 Tryd.underlying5, ?_, ?_⟩
      · have h := bytes_made W 5 S (by omega)
        obtain ⟨hx, g, cap, cur, fz, hv, hbg, r⟩ := h
        exact ⟨hx, g, cap, cur, fz, hv, Nat.le_trans hG.size hbg, r⟩
      · exact ((ext_drew (Below.refl _ _)).alloc (Nat.le_refl _) _)
    have HX := Lib.hid (show Lib.strCells S = Lib.byteCells (headL p) ∧ S.size = (headL p).length from by
      have e : S = ByteArray.mk (headL p).toArray := by
        rw [hS, HS.out.1, HS.out.2]
        apply ByteArray.ext
        apply Array.ext'
        simp [headL, lineL, joinL, sepL, workersWord, ByteArray.data_append]
      rw [e]
      exact ⟨strCells_bytes _, mk_size _⟩)
    rw [HX.out.1, HX.out.2] at hrow
    have hb := hG.trans (hb1.mono hG.size)
    clear hS hSz hb1
    simp only [puts]
    show wpList _ _ _ [_, _] _ _
    have c8 : W1.cell? ⟨w.heap.size, 8, none⟩ = some (.slice Ai p.inputs.length ci) := ((bcell hb).1 _ _ hz0).trans k8
    have hZ : (headL p).length ≤ 343 := by unfold headL; rw [List.length_append]; have := HL.out; omega
    obtain ⟨i0, hi, hy0, hy1, hy2⟩ := info_parts byte_info
    have HI := Lib.hid (show Tryd.prog.info? 5 = some i0 ∧ i0.zero = some (.int .u8 0) ∧ i0.size = 1 ∧ i0.bytes = 1 from ⟨hi, hy0, hy1, hy2⟩)
    clear hi hy0 hy1 hy2 k0 k1 k2 k3 k4 k5 k6 k7 k8 k9
    go_wp2_with fail
    go_loopw [3, 23] (fun v3 v23 wr => ∃ (k : Nat) (L : List UInt8), k ≤ p.inputs.length ∧ v23 = .int .i64 k ∧ L = headL p ++ (p.inputs.take k).flatMap sourceL ∧ RowB wr W0.heap.size 5 v3 L.length (Lib.byteCells L) ∧ Below W0.heap.size W0 wr) (fun _ v23 _ => p.inputs.length - (intOf v23).toNat)
    case atStart => exact ⟨0, headL p, Nat.zero_le _, rfl, by simp, hrow, hb⟩
    case round =>
     clear hrow hb c8 hrun
     obtain ⟨k, L, hk, rfl, hLe, hrow, hb⟩ := hrel
     have hcb := (bcell hb).1
     have hL0 : L.length ≤ 48343 := by rw [hLe, List.length_append]; have := HL.out; have := flat_take_len sourceL p.inputs k; omega
     have HLe := Lib.hid hLe
     clear hLe
     have hsz1 := hb.size
     by_cases hlt : k < p.inputs.length
     · obtain ⟨bb, o, x0, rfl, hz1, ⟨v, hv, hsv⟩, e0⟩ := hsi.one k hlt
       injection hv with hv
       subst hv
       have f0 : wr.cell? ⟨bb, o + k, none⟩ = some x0 := (hcb _ _ hz1).trans e0
       obtain ⟨s, hs⟩ : ∃ s, s = p.inputs[k] := ⟨_, rfl⟩
       have hsn : s.length ≤ 200 := by rw [hs]; exact (q2 _ (List.getElem_mem _)).1
       have hsk : ∀ e ∈ s, e.key.size ≤ 16 := by rw [hs]; exact (q2 _ (List.getElem_mem _)).2
       have hswf : ∀ e ∈ s, e.wf := by rw [hs]; exact hw.inputs _ (List.getElem_mem _)
       rw [← hs] at hsv
       obtain ⟨As, cs', rfl, hse, hcs1, hcs2⟩ := hsv
       have HT2 := Lib.hid (show (p.inputs.take (k + 1)).flatMap sourceL = (p.inputs.take k).flatMap sourceL ++ sourceL s from by rw [hs]; exact flat_take sourceL p.inputs k hlt)
       clear hcb e0 hsi hs
       go_wp2_with (at_builtin; refine wpList_string_B rfl _ _ 37 9 rfl W0.heap.size 5 i0 Tryd.underlying37 Tryd.underlying9 HI.out.1 HI.out.2.1 HI.out.2.2.1 HI.out.2.2.2 _ L.length (Lib.byteCells L) rfl hrow (ByteArray.mk #[115, 111, 117, 114, 99, 101]) rfl (by show L.length + 6 ≤ _; omega) hsz1 ?_)
       intro v4 w4 hrow4 hb4 _
       have hL4 : L.length + 6 = (L ++ srcWord).length := by simp [srcWord]
       rw [strCells_bytes, show (ByteArray.mk #[115, 111, 117, 114, 99, 101]).data.toList = srcWord from rfl, cells_app, hL4] at hrow4
       have hb5 := hb.trans hb4
       clear hL4 hrow hb4
       go_wp2_with fail
       go_loopw [3, 31] (fun v3 v31 wq => ∃ (m : Nat) (M : List UInt8), m ≤ s.length ∧ v31 = .int .i64 m ∧ M = L ++ srcWord ++ ((s.take m).flatMap fun e => 32 :: evL e) ∧ RowB wq W0.heap.size 5 v3 M.length (Lib.byteCells M) ∧ Below W0.heap.size W0 wq) (fun _ v31 _ => s.length - (intOf v31).toNat)
       case atStart => exact ⟨0, L ++ srcWord, Nat.zero_le _, rfl, by simp, hrow4, hb5⟩
       case round =>
        clear hrow4 hb5 f0
        rename_i wr0
        obtain ⟨m, M, hm, rfl, hMe, hrow, hb⟩ := hrel
        have hcb := (bcell hb).1
        have hM0 : M.length ≤ 70000 := by
          rw [hMe, List.length_append, List.length_append]
          have h1 := flat_len (fun e : Ev => 32 :: evL e) 59 (s.take m) (fun e he => by have he := List.mem_of_mem_take he; have := evL_len e (hswf e he) (hsk e he); simp; omega)
          rw [List.length_take] at h1
          have h2 : srcWord.length = 6 := rfl
          have h3 : min m s.length * 59 ≤ 200 * 59 := Nat.mul_le_mul_right _ (by omega)
          omega
        have HMe := Lib.hid hMe
        clear hMe
        have hsz2 := hb.size
        by_cases hlt2 : m < s.length
        · obtain ⟨b2, o2, x0, x1, x2, rfl, hz2, ⟨hcs, hwf⟩, e0, e1, e2⟩ := hse.three m hlt2
          obtain ⟨e, he⟩ : ∃ e, e = s[m] := ⟨_, rfl⟩
          have hkl : e.key.size ≤ 16 := by rw [he]; exact hsk _ (List.getElem_mem _)
          rw [← he] at hcs hwf
          injection hcs with y0 hcs; injection hcs with y1 hcs; injection hcs with y2 hcs
          subst y0 y1 y2
          have f0 := (hcb _ _ hz2).trans e0
          have f1 := (hcb _ _ hz2).trans e1
          have f2 := (hcb _ _ hz2).trans e2
          clear hcb e0 e1 e2
          obtain ⟨sa, hsa'⟩ : ∃ sa, sa = ByteArray.mk (Lib.itoa e.at_).toArray := ⟨_, rfl⟩
          obtain ⟨sv, hsv'⟩ : ∃ sv, sv = ByteArray.mk (Lib.itoa e.val).toArray := ⟨_, rfl⟩
          have hha := fun W (hT : Tab W) => fmt_int e.at_ hwf.2.1 W hT
          have hhv := fun W (hT : Tab W) => fmt_int e.val hwf.2.2 W hT
          rw [← hsa'] at hha
          rw [← hsv'] at hhv
          have hla : sa.size ≤ 20 := by rw [hsa', mk_size]; exact itoa_len _ hwf.2.1
          have hlv : sv.size ≤ 20 := by rw [hsv', mk_size]; exact itoa_len _ hwf.2.2
          have hev : (ByteArray.mk #[32] ++ e.key ++ ByteArray.mk #[64] ++ sa ++ ByteArray.mk #[58] ++ sv) = ByteArray.mk (32 :: evL e).toArray := by
            rw [hsa', hsv']
            apply ByteArray.ext
            apply Array.ext'
            simp [evL, bytesL, ByteArray.data_append]
          have htk : (s.take (m + 1)).flatMap (fun e => 32 :: evL e) = (s.take m).flatMap (fun e => 32 :: evL e) ++ (32 :: evL e) := by rw [he]; exact flat_take (fun e => 32 :: evL e) s m hlt2
          have HX := Lib.hid (show (ByteArray.mk #[32] ++ e.key ++ ByteArray.mk #[64] ++ sa ++ ByteArray.mk #[58] ++ sv) = ByteArray.mk (32 :: evL e).toArray ∧ (s.take (m + 1)).flatMap (fun e => 32 :: evL e) = (s.take m).flatMap (fun e => 32 :: evL e) ++ (32 :: evL e) from ⟨hev, htk⟩)
          have HH := Lib.hid (show (∀ W, Tab W → Calls Tryd.prog 30 #[.int .i64 e.at_, .int .i64 10] W fun r w' => r = .returned (.string sa) ∧ Below W.heap.size W w') ∧ (∀ W, Tab W → Calls Tryd.prog 30 #[.int .i64 e.val, .int .i64 10] W fun r w' => r = .returned (.string sv) ∧ Below W.heap.size W w') from ⟨hha, hhv⟩)
          have n1 : ¬ 9223372036854775807 < 1 + e.key.size := by omega
          have n2 : ¬ 9223372036854775807 < 1 + e.key.size + 1 := by omega
          have n3 : ¬ 9223372036854775807 < 1 + e.key.size + 1 + sa.size := by omega
          have n4 : ¬ 9223372036854775807 < 1 + e.key.size + 1 + sa.size + 1 := by omega
          have n5 : ¬ 9223372036854775807 < 1 + e.key.size + 1 + sa.size + 1 + sv.size := by omega
          obtain ⟨Wy, hWy⟩ : ∃ Wy, Wy = wr.alloc (.cells #[.string e.key, .int .i64 e.at_, .int .i64 e.val] 57) := ⟨_, rfl⟩
          have hby : Below wr.heap.size wr Wy := by rw [hWy]; exact (Below.refl _ wr).alloc (Nat.le_refl _) _
          have c0 : Wy.cell? ⟨wr.heap.size, 0, none⟩ = some (.string e.key) := by rw [hWy]; exact box_cell _ _ _ _ _ rfl
          have c1 : Wy.cell? ⟨wr.heap.size, 1, none⟩ = some (.int .i64 e.at_) := by rw [hWy]; exact box_cell _ _ _ _ _ rfl
          have c2 : Wy.cell? ⟨wr.heap.size, 2, none⟩ = some (.int .i64 e.val) := by rw [hWy]; exact box_cell _ _ _ _ _ rfl
          have hg6 : wr.heap.size < Wy.heap.size := by rw [hWy]; simp
          have hty : Tab Wy := (htx.mono hb).mono hby
          have HWy := Lib.hid hWy
          clear hWy hev htk hha hhv hsa' hsv' he
          go_wp2_with fail
          rw [← HWy.out]
          refine wp_region_tail (by kernel_rfl) 14 [3, 7] (by kernel_rfl) (fun a b => Below a.heap.size a b) (fun a b c h k => below_tr h k) (ext_drew (Below.refl _ _)) (evSlot u3 wr.heap.size e sa sv) (fun t W W' v h hb => h) ?_ ?_ ?_
          · intro t ht W hW
            rcases List.mem_cons.1 ht with rfl | ht
            · exact rfl
            · rcases List.mem_cons.1 ht with rfl | ht
              · exact rfl
              · cases ht
          · refine ⟨?_, ?_, ?_, ?_, ?_, ?_, ?_, ?_, ?_, ?_, ?_, ?_, ?_, ?_, trivial⟩
            · intro a W hG hk K hK
              have h3 : a.tmps.getD 3 undef = u3 := hk 3 (List.mem_of_elem_eq_true (by kernel_rfl))
              clear hk
              simp only [Array.getD_eq_getD_getElem?] at h3 ⊢
              go_simp
              exact hK _ _ (by rintro d ⟨⟩; rfl) (Below.refl _ _)
            · intro a W hG hk K hK
              have h7 : a.tmps.getD 7 undef = .pointer (some ⟨wr.heap.size, 0, none⟩) := hk 7 (List.mem_of_elem_eq_true (by kernel_rfl))
              clear hk
              simp only [Array.getD_eq_getD_getElem?] at h7 ⊢
              go_simp
              exact hK _ _ (by rintro d ⟨⟩; rfl) (Below.refl _ _)
            · intro a W hG hk K hK
              have h36 : a.tmps.getD 36 undef = .pointer (some ⟨wr.heap.size, 0, none⟩) := hk 36 (List.mem_of_elem_eq_true (by kernel_rfl))
              clear hk
              have hcc0 : W.cell? ⟨wr.heap.size, 0, none⟩ = some (.string e.key) := ((bcell hG).1 _ _ hg6).trans c0
              simp only [Array.getD_eq_getD_getElem?] at h36 ⊢
              go_simp
              exact hK _ _ (by rintro d ⟨⟩; rfl) (Below.refl _ _)
            · intro a W hG hk K hK
              have h37 : a.tmps.getD 37 undef = .string e.key := hk 37 (List.mem_of_elem_eq_true (by kernel_rfl))
              clear hk
              simp only [Array.getD_eq_getD_getElem?] at h37 ⊢
              go_simp
              exact hK _ _ (by rintro d ⟨⟩; rfl) (Below.refl _ _)
            · intro a W hG hk K hK
              have h38 : a.tmps.getD 38 undef = .string (ByteArray.mk #[32] ++ e.key) := hk 38 (List.mem_of_elem_eq_true (by kernel_rfl))
              clear hk
              simp only [Array.getD_eq_getD_getElem?] at h38 ⊢
              go_simp
              exact hK _ _ (by rintro d ⟨⟩; rfl) (Below.refl _ _)
            · intro a W hG hk K hK
              have h7 : a.tmps.getD 7 undef = .pointer (some ⟨wr.heap.size, 0, none⟩) := hk 7 (List.mem_of_elem_eq_true (by kernel_rfl))
              clear hk
              simp only [Array.getD_eq_getD_getElem?] at h7 ⊢
              go_simp
              exact hK _ _ (by rintro d ⟨⟩; rfl) (Below.refl _ _)
            · intro a W hG hk K hK
              have h40 : a.tmps.getD 40 undef = .pointer (some ⟨wr.heap.size, 1, none⟩) := hk 40 (List.mem_of_elem_eq_true (by kernel_rfl))
              clear hk
              have hcc1 : W.cell? ⟨wr.heap.size, 1, none⟩ = some (.int .i64 e.at_) := ((bcell hG).1 _ _ hg6).trans c1
              simp only [Array.getD_eq_getD_getElem?] at h40 ⊢
              go_simp
              exact hK _ _ (by rintro d ⟨⟩; rfl) (Below.refl _ _)
            · intro a W hG hk K hK
              have h41 : a.tmps.getD 41 undef = .int .i64 e.at_ := hk 41 (List.mem_of_elem_eq_true (by kernel_rfl))
              clear hk
              have hT : Tab W := hty.mono hG
              simp only [Array.getD_eq_getD_getElem?] at h41 ⊢
              go_simp
              refine (HH.out.1 _ hT).mono ?_
              rintro r w1 ⟨rfl, hb1⟩
              exact hK _ _ (by rintro d ⟨⟩; rfl) hb1
            · intro a W hG hk K hK
              have h39 : a.tmps.getD 39 undef = .string (ByteArray.mk #[32] ++ e.key ++ ByteArray.mk #[64]) := hk 39 (List.mem_of_elem_eq_true (by kernel_rfl))
              have h42 : a.tmps.getD 42 undef = .string sa := hk 42 (List.mem_of_elem_eq_true (by kernel_rfl))
              clear hk
              simp only [Array.getD_eq_getD_getElem?] at h39 h42 ⊢
              go_simp
              exact hK _ _ (by rintro d ⟨⟩; rfl) (Below.refl _ _)
            · intro a W hG hk K hK
              have h43 : a.tmps.getD 43 undef = .string (ByteArray.mk #[32] ++ e.key ++ ByteArray.mk #[64] ++ sa) := hk 43 (List.mem_of_elem_eq_true (by kernel_rfl))
              clear hk
              simp only [Array.getD_eq_getD_getElem?] at h43 ⊢
              go_simp
              exact hK _ _ (by rintro d ⟨⟩; rfl) (Below.refl _ _)
            · intro a W hG hk K hK
              have h7 : a.tmps.getD 7 undef = .pointer (some ⟨wr.heap.size, 0, none⟩) := hk 7 (List.mem_of_elem_eq_true (by kernel_rfl))
              clear hk
              simp only [Array.getD_eq_getD_getElem?] at h7 ⊢
              go_simp
              exact hK _ _ (by rintro d ⟨⟩; rfl) (Below.refl _ _)
            · intro a W hG hk K hK
              have h45 : a.tmps.getD 45 undef = .pointer (some ⟨wr.heap.size, 2, none⟩) := hk 45 (List.mem_of_elem_eq_true (by kernel_rfl))
              clear hk
              have hcc2 : W.cell? ⟨wr.heap.size, 2, none⟩ = some (.int .i64 e.val) := ((bcell hG).1 _ _ hg6).trans c2
              simp only [Array.getD_eq_getD_getElem?] at h45 ⊢
              go_simp
              exact hK _ _ (by rintro d ⟨⟩; rfl) (Below.refl _ _)
            · intro a W hG hk K hK
              have h46 : a.tmps.getD 46 undef = .int .i64 e.val := hk 46 (List.mem_of_elem_eq_true (by kernel_rfl))
              clear hk
              have hT : Tab W := hty.mono hG
              simp only [Array.getD_eq_getD_getElem?] at h46 ⊢
              go_simp
              refine (HH.out.2 _ hT).mono ?_
              rintro r w1 ⟨rfl, hb1⟩
              exact hK _ _ (by rintro d ⟨⟩; rfl) hb1
            · intro a W hG hk K hK
              have h44 : a.tmps.getD 44 undef = .string (ByteArray.mk #[32] ++ e.key ++ ByteArray.mk #[64] ++ sa ++ ByteArray.mk #[58]) := hk 44 (List.mem_of_elem_eq_true (by kernel_rfl))
              have h47 : a.tmps.getD 47 undef = .string sv := hk 47 (List.mem_of_elem_eq_true (by kernel_rfl))
              clear hk
              simp only [Array.getD_eq_getD_getElem?] at h44 h47 ⊢
              go_simp
              exact hK _ _ (by rintro d ⟨⟩; rfl) (Below.refl _ _)
          · intro a W hG hd hs hold hnew
            obtain rfl := frame_puts [(35, u3), (36, .pointer (some ⟨wr.heap.size, 0, none⟩)), (37, .string e.key), (38, .string (ByteArray.mk #[32] ++ e.key)), (39, .string (ByteArray.mk #[32] ++ e.key ++ ByteArray.mk #[64])), (40, .pointer (some ⟨wr.heap.size, 1, none⟩)), (41, .int .i64 e.at_), (42, .string sa), (43, .string (ByteArray.mk #[32] ++ e.key ++ ByteArray.mk #[64] ++ sa)), (44, .string (ByteArray.mk #[32] ++ e.key ++ ByteArray.mk #[64] ++ sa ++ ByteArray.mk #[58])), (45, .pointer (some ⟨wr.heap.size, 2, none⟩)), (46, .int .i64 e.val), (47, .string sv), (48, .string (ByteArray.mk #[32] ++ e.key ++ ByteArray.mk #[64] ++ sa ++ ByteArray.mk #[58] ++ sv))] hd hs hold (by kernel_rfl) ⟨hnew 35 0 (by kernel_rfl), hnew 36 1 (by kernel_rfl), hnew 37 2 (by kernel_rfl), hnew 38 3 (by kernel_rfl), hnew 39 4 (by kernel_rfl), hnew 40 5 (by kernel_rfl), hnew 41 6 (by kernel_rfl), hnew 42 7 (by kernel_rfl), hnew 43 8 (by kernel_rfl), hnew 44 9 (by kernel_rfl), hnew 45 10 (by kernel_rfl), hnew 46 11 (by kernel_rfl), hnew 47 12 (by kernel_rfl), hnew 48 13 (by kernel_rfl), trivial⟩
            clear hold hnew hd hs c0 c1 c2 hty
            have hrow' := hrow.below (below_tr hby hG)
            obtain ⟨S, hS⟩ : ∃ S, S = ByteArray.mk #[32] ++ e.key ++ ByteArray.mk #[64] ++ sa ++ ByteArray.mk #[58] ++ sv := ⟨_, rfl⟩
            rw [← hS]
            have hS1 : S = ByteArray.mk (32 :: evL e).toArray := by rw [hS]; exact HX.out.1
            have hS2 : S.size ≤ 59 := by rw [hS1, mk_size]; have := evL_len e hwf hkl; simp; omega
            have HS1 := Lib.hid hS1
            have hsz3 := hG.size
            have hsz4 := hby.size
            clear hS hS1 hrow n1 n2 n3 n4 n5
            simp only [puts, Act.put, List.setIfInBounds_toArray, List.set_cons_succ, List.set_cons_zero]
            show wpList _ _ _ [_, _] _ _
            go_wp2_with (at_builtin; refine wpList_string_B rfl _ _ 37 9 rfl W0.heap.size 5 i0 Tryd.underlying37 Tryd.underlying9 HI.out.1 HI.out.2.1 HI.out.2.2.1 HI.out.2.2.2 u3 M.length (Lib.byteCells M) rfl hrow' S rfl (by omega) (by omega) ?_)
            intro v5 w5 hrow5 hb5 _
            have hb6 := (hb.trans ((hby.mono hsz2).trans (hG.mono (by omega)))).trans hb5
            have hl5 : M.length + S.size = (M ++ (32 :: evL e)).length := by rw [HS1.out, mk_size, List.length_append]
            rw [hl5, HS1.out, strCells_bytes, List.toList_toArray, cells_app] at hrow5
            clear hl5 hrow' hb5
            go_wp2_with fail
            go_roundw
            case rel => exact ⟨m + 1, M ++ (32 :: evL e), by omega, by go_num, by rw [HX.out.2, HMe.out]; simp, hrow5, hb6⟩
            case measure => simp [intOf]; omega
        · have hall : s.take m = s := List.take_of_length_le (by omega)
          have hM1 : M ++ [10] = L ++ sourceL s := by rw [HMe.out, hall, sourceL_eq]; simp
          have HM1 := Lib.hid hM1
          have hA : Below wr.heap.size wr (wr.alloc (.cells #[.int .u8 10] 5)) := (Below.refl _ wr).alloc (Nat.le_refl _) _
          have hrow' := hrow.below hA
          have hcy : (wr.alloc (.cells #[.int .u8 10] 5)).cell? ⟨wr.heap.size, 0, none⟩ = some (.int .u8 10) := box_cell _ _ _ _ _ rfl
          have HCY := Lib.hid hcy
          have hsz5 := hA.size
          clear hcb hM1 hall hrow hcy hse
          go_wp2_with (at_builtin; refine wpList_byte_B rfl _ _ 37 rfl W0.heap.size 5 i0 Tryd.underlying37 HI.out.1 HI.out.2.1 HI.out.2.2.1 HI.out.2.2.2 u3 M.length (Lib.byteCells M) rfl hrow' ⟨wr.heap.size, 0, none⟩ 1 (.int .u8 10) rfl HCY.out rfl (by omega) (by omega) ?_)
          intro v6 w6 hrow6 hb6 _
          have hb7 := (hb.trans (hA.mono hsz2)).trans hb6
          rw [show [Value.int .u8 10] = Lib.byteCells [10] from rfl, cells_app, show M.length + 1 = (M ++ [10]).length by simp, HM1.out] at hrow6
          clear hrow' hb6
          go_wp2_with fail
          go_roundw
          case rel => exact ⟨k + 1, L ++ sourceL s, by omega, by go_num, by rw [HT2.out, HLe.out]; simp, hrow6, hb7⟩
          case measure => simp [intOf]; omega
     · have hall : p.inputs.take k = p.inputs := List.take_of_length_le (by omega)
       have hL1 : L = headL p ++ p.inputs.flatMap sourceL := by rw [HLe.out, hall]
       have c10 : wr.cell? ⟨w.heap.size, 10, none⟩ = some (.slice Aa p.acts.length ca) := (hcb _ _ hz0).trans k10
       have HL1 := Lib.hid hL1
       clear hcb hall hL1 k10
       go_wp2_with fail
       go_loopw [3, 58] (fun v3 v58 wq => ∃ (m : Nat) (M : List UInt8), m ≤ p.acts.length ∧ v58 = .int .i64 m ∧ M = L ++ (p.acts.take m).flatMap actL ∧ RowB wq W0.heap.size 5 v3 M.length (Lib.byteCells M) ∧ Below W0.heap.size W0 wq) (fun _ v58 _ => p.acts.length - (intOf v58).toNat)
       case atStart => exact ⟨0, L, Nat.zero_le _, rfl, by simp, hrow, hb⟩
       case round =>
        clear hrow hb c10
        rename_i wr0
        obtain ⟨m, M, hm, rfl, hMe, hrow, hb⟩ := hrel
        have hcb := (bcell hb).1
        have hM0 : M.length ≤ 70000 := by
          rw [hMe, List.length_append]
          have h1 := flat_take_len actL p.acts m
          have := HL.out
          omega
        have HMe := Lib.hid hMe
        clear hMe
        have hsz2 := hb.size
        by_cases hlt2 : m < p.acts.length
        · obtain ⟨b2, o2, x0, x1, x2, rfl, hz2, ⟨hcs, hwf⟩, e0, e1, e2⟩ := hsa.three m hlt2
          obtain ⟨a, hae⟩ : ∃ a, a = p.acts[m] := ⟨_, rfl⟩
          rw [← hae] at hcs hwf
          injection hcs with y0 hcs; injection hcs with y1 hcs; injection hcs with y2 hcs
          subst y0 y1 y2
          have f0 := (hcb _ _ hz2).trans e0
          have f1 := (hcb _ _ hz2).trans e1
          have f2 := (hcb _ _ hz2).trans e2
          have htk : (p.acts.take (m + 1)).flatMap actL = (p.acts.take m).flatMap actL ++ actL a := by rw [hae]; exact flat_take actL p.acts m hlt2
          have HX := Lib.hid htk
          obtain ⟨sa, hsa'⟩ : ∃ sa, sa = ByteArray.mk (wordL a.what).toArray := ⟨_, rfl⟩
          have hword := fun W => word_ref a.what W
          rw [← hsa'] at hword
          have hsz : sa.size ≤ 7 := by rw [hsa', mk_size]; exact wordL_len _
          have hsl : Lib.strCells sa = Lib.byteCells (wordL a.what) ∧ sa.size = (wordL a.what).length := by rw [hsa']; exact ⟨strCells_bytes _, mk_size _⟩
          have HW := Lib.hid (show (∀ W, Calls Tryd.prog 31 #[.int .i64 a.what] W fun e w' => e = .returned (.string sa) ∧ W = w') ∧ (∀ W, Calls Tryd.prog 32 #[.int .i64 a.what] W fun e w' => e = .returned (.bool (decide (needs a.what = 1))) ∧ W = w') ∧ (∀ W, Calls Tryd.prog 33 #[.int .i64 a.what] W fun e w' => e = .returned (.bool (decide (needs a.what = 2))) ∧ W = w') from ⟨hword, fun W => which_ref a.what W, fun W => who_ref a.what W⟩)
          have HSL := Lib.hid hsl
          have hA : Below wr.heap.size wr (wr.alloc (.cells #[.int .i64 a.what, .int .i64 a.who, .int .i64 a.which] 52)) := (Below.refl _ wr).alloc (Nat.le_refl _) _
          obtain ⟨Wy, hWy⟩ : ∃ Wy, Wy = wr.alloc (.cells #[.int .i64 a.what, .int .i64 a.who, .int .i64 a.which] 52) := ⟨_, rfl⟩
          have c0 : Wy.cell? ⟨wr.heap.size, 0, none⟩ = some (.int .i64 a.what) := by rw [hWy]; exact box_cell _ _ _ _ _ rfl
          have c1 : Wy.cell? ⟨wr.heap.size, 1, none⟩ = some (.int .i64 a.who) := by rw [hWy]; exact box_cell _ _ _ _ _ rfl
          have c2 : Wy.cell? ⟨wr.heap.size, 2, none⟩ = some (.int .i64 a.which) := by rw [hWy]; exact box_cell _ _ _ _ _ rfl
          have hg6 : wr.heap.size < Wy.heap.size := by rw [hWy]; simp
          rw [← hWy] at hA
          have HWy := Lib.hid hWy
          have hrow0 := hrow.below hA
          have hfr := hrow.fresh wr.heap.size (Nat.le_refl _)
          have hbA : Below W0.heap.size W0 Wy := hb.trans (hA.mono hsz2)
          have hszA := hA.size
          clear hcb e0 e1 e2 hsa hsa' hword hsl hWy hrow hA hae htk
          have hneeds : needs a.what = 0 ∨ needs a.what = 1 ∨ needs a.what = 2 := by
            rcases kinds a.what with h | h
            · exact h.2.2.2
            · exact .inl (wordL_out h.2).2
          rcases hneeds with hn | hn | hn
          · have d1 : decide (needs a.what = 1) = false := by rw [hn]; decide
            have d2 : decide (needs a.what = 2) = false := by rw [hn]; decide
            have D := Lib.hid (And.intro d1 d2)
            have ha : actL a = wordL a.what ++ [10] := by unfold actL; rw [if_pos hn]; simp [lineL, joinL, sepL]
            have HA := Lib.hid ha
            have hl5 : (M ++ wordL a.what).length ≤ 70007 := by rw [List.length_append]; have := wordL_len a.what; omega
            clear d1 d2 ha hn
            go_wp2_with (first | (go_at_call 31; rw [← HWy.out]; refine (HW.out.1 _).mono ?_; rintro r w7 ⟨rfl, rfl⟩) | (go_at_call 32; refine (HW.out.2.1 _).mono ?_; rintro r w8 ⟨rfl, rfl⟩; rw [D.out.1]) | (go_at_call 33; refine (HW.out.2.2 _).mono ?_; rintro r w9 ⟨rfl, rfl⟩; rw [D.out.2]) | (at_builtin; refine wpList_string_B rfl _ _ 37 9 rfl W0.heap.size 5 i0 Tryd.underlying37 Tryd.underlying9 HI.out.1 HI.out.2.1 HI.out.2.2.1 HI.out.2.2.2 u3 M.length (Lib.byteCells M) rfl hrow0 sa rfl (by omega) (by omega) ?_; intro v5 w5 hrow5 hb5 hst5; obtain ⟨hfr5, hlt5, hc5⟩ := hst5.box hfr hg6; (have r0 := hc5 _ _ c0); (have r1 := hc5 _ _ c1); (have r2 := hc5 _ _ c2); (rw [HSL.out.1, HSL.out.2, cells_app, ← List.length_append] at hrow5); (have hb6 := hbA.trans hb5); (have hs6 := hb6.size); clear hb5 hst5 hc5) | (at_builtin; refine wpList_byte_B rfl _ _ 37 rfl W0.heap.size 5 i0 Tryd.underlying37 HI.out.1 HI.out.2.1 HI.out.2.2.1 HI.out.2.2.2 v5 (M ++ wordL a.what).length (Lib.byteCells (M ++ wordL a.what)) rfl (hrow5.below ((Below.refl _ w5).alloc (Nat.le_refl _) _)) ⟨w5.heap.size, 0, none⟩ 1 (.int .u8 10) rfl (box_cell _ _ _ _ _ rfl) rfl (by omega) (by simp; omega) ?_; intro vz wz hrowz hbz _))
            have hbf := hb6.trans (((Below.refl _ w5).alloc hs6 _).trans hbz)
            rw [show [Value.int .u8 10] = Lib.byteCells [10] from rfl, cells_app, show (M ++ wordL a.what).length + 1 = (M ++ wordL a.what ++ [10]).length by simp; omega] at hrowz
            clear hbz
            go_wp2_with fail
            go_roundw
            case rel => exact ⟨m + 1, M ++ wordL a.what ++ [10], by omega, by go_num, by rw [HX.out, HA.out, HMe.out]; simp, hrowz, hbf⟩
            case measure => simp [intOf]; omega
          · have d1 : decide (needs a.what = 1) = true := by rw [hn]; decide
            have d2 : decide (needs a.what = 2) = false := by rw [hn]; decide
            have D := Lib.hid (And.intro d1 d2)
            obtain ⟨si, hsi'⟩ : ∃ si, si = ByteArray.mk (Lib.itoa a.which).toArray := ⟨_, rfl⟩
            have hit := fun W (hT : Tab W) => itoa_int a.which hwf.2.2 W hT
            rw [← hsi'] at hit
            have hsiz : si.size ≤ 20 := by rw [hsi', mk_size]; exact itoa_len _ hwf.2.2
            have hsis : ByteArray.mk #[32] ++ si = ByteArray.mk (32 :: Lib.itoa a.which).toArray := by
              rw [hsi']
              exact mk_app [32] _
            have HIT := Lib.hid (show (∀ W, Tab W → Calls Tryd.prog 12 #[.int .i64 a.which] W fun e w' => e = .returned (.string si) ∧ Below W.heap.size W w') ∧ Lib.strCells (ByteArray.mk #[32] ++ si) = Lib.byteCells (32 :: Lib.itoa a.which) ∧ (ByteArray.mk #[32] ++ si).size = (32 :: Lib.itoa a.which).length from ⟨hit, by rw [hsis]; exact strCells_bytes _, by rw [hsis]; exact mk_size _⟩)
            have ha : actL a = wordL a.what ++ (32 :: Lib.itoa a.which) ++ [10] := by unfold actL; rw [if_neg (by omega), if_pos hn]; simp [lineL, joinL, sepL]
            have HA := Lib.hid ha
            have hl5 : (M ++ wordL a.what).length ≤ 70007 := by rw [List.length_append]; have := wordL_len a.what; omega
            have hl9 : (32 :: Lib.itoa a.which).length ≤ 21 := by have := itoa_len a.which hwf.2.2; simp; omega
            have hlx : (M ++ wordL a.what ++ (32 :: Lib.itoa a.which)).length = (M ++ wordL a.what).length + (32 :: Lib.itoa a.which).length := List.length_append
            have hlz : (M ++ wordL a.what ++ (32 :: Lib.itoa a.which)).length ≤ 70028 := by omega
            have nn : ¬ 9223372036854775807 < 1 + si.size := by omega
            clear d1 d2 ha hn hsi' hit hsis
            go_wp2_with (first | (go_at_call 31; rw [← HWy.out]; refine (HW.out.1 _).mono ?_; rintro r w7 ⟨rfl, rfl⟩) | (go_at_call 32; refine (HW.out.2.1 _).mono ?_; rintro r w8 ⟨rfl, rfl⟩; rw [D.out.1]) | (go_at_call 33; refine (HW.out.2.2 _).mono ?_; rintro r w9 ⟨rfl, rfl⟩; rw [D.out.2]) | (at_builtin; refine wpList_string_B rfl _ _ 37 9 rfl W0.heap.size 5 i0 Tryd.underlying37 Tryd.underlying9 HI.out.1 HI.out.2.1 HI.out.2.2.1 HI.out.2.2.2 u3 M.length (Lib.byteCells M) rfl hrow0 sa rfl (by omega) (by omega) ?_; intro v5 w5 hrow5 hb5 hst5; obtain ⟨hfr5, hlt5, hc5⟩ := hst5.box hfr hg6; (have r0 := hc5 _ _ c0); (have r1 := hc5 _ _ c1); (have r2 := hc5 _ _ c2); (rw [HSL.out.1, HSL.out.2, cells_app, ← List.length_append] at hrow5); (have hb6 := hbA.trans hb5); (have hs6 := hb6.size); clear hb5 hst5 hc5) | (go_at_call 12; refine (HIT.out.1 _ (htx.mono hb6)).mono ?_; rintro r w10 ⟨rfl, hb10⟩; (have hb11 := hb6.trans (hb10.mono hs6)); (have hs11 := hb11.size); (have hrow7 := hrow5.below hb10); (have hfr7 := hrow7); (have q0 := ((bcell hb10).1 _ _ hlt5).trans r0); (have q1 := ((bcell hb10).1 _ _ hlt5).trans r1); (have q2 := ((bcell hb10).1 _ _ hlt5).trans r2); (have hlt7 : wr.heap.size < w10.heap.size := Nat.lt_of_lt_of_le hlt5 hb10.size)) | (at_builtin; refine wpList_string_B rfl _ _ 37 9 rfl W0.heap.size 5 i0 Tryd.underlying37 Tryd.underlying9 HI.out.1 HI.out.2.1 HI.out.2.2.1 HI.out.2.2.2 v5 (M ++ wordL a.what).length (Lib.byteCells (M ++ wordL a.what)) rfl hrow7 (ByteArray.mk #[32] ++ si) rfl (by rw [HIT.out.2.2]; omega) (by omega) ?_; intro v8 w8 hrow8 hb8 hst8; obtain ⟨hfr8, hlt8, hc8⟩ := hst8.box hfr5 hlt7; (have t0 := hc8 _ _ q0); (have t1 := hc8 _ _ q1); (have t2 := hc8 _ _ q2); (rw [HIT.out.2.1, HIT.out.2.2, cells_app, ← hlx] at hrow8); (have hb12 := hb11.trans hb8); (have hs12 := hb12.size); clear hb8 hst8 hc8) | (at_builtin; refine wpList_byte_B rfl _ _ 37 rfl W0.heap.size 5 i0 Tryd.underlying37 HI.out.1 HI.out.2.1 HI.out.2.2.1 HI.out.2.2.2 v8 (M ++ wordL a.what ++ (32 :: Lib.itoa a.which)).length (Lib.byteCells (M ++ wordL a.what ++ (32 :: Lib.itoa a.which))) rfl (hrow8.below ((Below.refl _ w8).alloc (Nat.le_refl _) _)) ⟨w8.heap.size, 0, none⟩ 1 (.int .u8 10) rfl (box_cell _ _ _ _ _ rfl) rfl (by omega) (by simp; omega) ?_; intro vz wz hrowz hbz _))
            have hbf := hb12.trans (((Below.refl _ w8).alloc hs12 _).trans hbz)
            rw [show [Value.int .u8 10] = Lib.byteCells [10] from rfl, cells_app, show (M ++ wordL a.what ++ (32 :: Lib.itoa a.which)).length + 1 = (M ++ wordL a.what ++ (32 :: Lib.itoa a.which) ++ [10]).length by simp; omega] at hrowz
            clear hbz
            go_wp2_with fail
            go_roundw
            case rel => exact ⟨m + 1, M ++ wordL a.what ++ (32 :: Lib.itoa a.which) ++ [10], by omega, by go_num, by rw [HX.out, HA.out, HMe.out]; simp, hrowz, hbf⟩
            case measure => simp [intOf]; omega
          · have d1 : decide (needs a.what = 1) = false := by rw [hn]; decide
            have d2 : decide (needs a.what = 2) = true := by rw [hn]; decide
            have D := Lib.hid (And.intro d1 d2)
            obtain ⟨si, hsi'⟩ : ∃ si, si = ByteArray.mk (Lib.itoa a.who).toArray := ⟨_, rfl⟩
            have hit := fun W (hT : Tab W) => itoa_int a.who hwf.2.1 W hT
            rw [← hsi'] at hit
            have hsiz : si.size ≤ 20 := by rw [hsi', mk_size]; exact itoa_len _ hwf.2.1
            have hsis : ByteArray.mk #[32] ++ si = ByteArray.mk (32 :: Lib.itoa a.who).toArray := by
              rw [hsi']
              exact mk_app [32] _
            have HIT := Lib.hid (show (∀ W, Tab W → Calls Tryd.prog 12 #[.int .i64 a.who] W fun e w' => e = .returned (.string si) ∧ Below W.heap.size W w') ∧ Lib.strCells (ByteArray.mk #[32] ++ si) = Lib.byteCells (32 :: Lib.itoa a.who) ∧ (ByteArray.mk #[32] ++ si).size = (32 :: Lib.itoa a.who).length from ⟨hit, by rw [hsis]; exact strCells_bytes _, by rw [hsis]; exact mk_size _⟩)
            have ha : actL a = wordL a.what ++ (32 :: Lib.itoa a.who) ++ [10] := by unfold actL; rw [if_neg (by omega), if_neg (by omega)]; simp [lineL, joinL, sepL]
            have HA := Lib.hid ha
            have hl5 : (M ++ wordL a.what).length ≤ 70007 := by rw [List.length_append]; have := wordL_len a.what; omega
            have hl9 : (32 :: Lib.itoa a.who).length ≤ 21 := by have := itoa_len a.who hwf.2.1; simp; omega
            have hlx : (M ++ wordL a.what ++ (32 :: Lib.itoa a.who)).length = (M ++ wordL a.what).length + (32 :: Lib.itoa a.who).length := List.length_append
            have hlz : (M ++ wordL a.what ++ (32 :: Lib.itoa a.who)).length ≤ 70028 := by omega
            have nn : ¬ 9223372036854775807 < 1 + si.size := by omega
            clear d1 d2 ha hn hsi' hit hsis
            go_wp2_with (first | (go_at_call 31; rw [← HWy.out]; refine (HW.out.1 _).mono ?_; rintro r w7 ⟨rfl, rfl⟩) | (go_at_call 32; refine (HW.out.2.1 _).mono ?_; rintro r w8 ⟨rfl, rfl⟩; rw [D.out.1]) | (go_at_call 33; refine (HW.out.2.2 _).mono ?_; rintro r w9 ⟨rfl, rfl⟩; rw [D.out.2]) | (at_builtin; refine wpList_string_B rfl _ _ 37 9 rfl W0.heap.size 5 i0 Tryd.underlying37 Tryd.underlying9 HI.out.1 HI.out.2.1 HI.out.2.2.1 HI.out.2.2.2 u3 M.length (Lib.byteCells M) rfl hrow0 sa rfl (by omega) (by omega) ?_; intro v5 w5 hrow5 hb5 hst5; obtain ⟨hfr5, hlt5, hc5⟩ := hst5.box hfr hg6; (have r0 := hc5 _ _ c0); (have r1 := hc5 _ _ c1); (have r2 := hc5 _ _ c2); (rw [HSL.out.1, HSL.out.2, cells_app, ← List.length_append] at hrow5); (have hb6 := hbA.trans hb5); (have hs6 := hb6.size); clear hb5 hst5 hc5) | (go_at_call 12; refine (HIT.out.1 _ (htx.mono hb6)).mono ?_; rintro r w10 ⟨rfl, hb10⟩; (have hb11 := hb6.trans (hb10.mono hs6)); (have hs11 := hb11.size); (have hrow7 := hrow5.below hb10); (have hfr7 := hrow7); (have q0 := ((bcell hb10).1 _ _ hlt5).trans r0); (have q1 := ((bcell hb10).1 _ _ hlt5).trans r1); (have q2 := ((bcell hb10).1 _ _ hlt5).trans r2); (have hlt7 : wr.heap.size < w10.heap.size := Nat.lt_of_lt_of_le hlt5 hb10.size)) | (at_builtin; refine wpList_string_B rfl _ _ 37 9 rfl W0.heap.size 5 i0 Tryd.underlying37 Tryd.underlying9 HI.out.1 HI.out.2.1 HI.out.2.2.1 HI.out.2.2.2 v5 (M ++ wordL a.what).length (Lib.byteCells (M ++ wordL a.what)) rfl hrow7 (ByteArray.mk #[32] ++ si) rfl (by rw [HIT.out.2.2]; omega) (by omega) ?_; intro v8 w8 hrow8 hb8 hst8; obtain ⟨hfr8, hlt8, hc8⟩ := hst8.box hfr5 hlt7; (have t0 := hc8 _ _ q0); (have t1 := hc8 _ _ q1); (have t2 := hc8 _ _ q2); (rw [HIT.out.2.1, HIT.out.2.2, cells_app, ← hlx] at hrow8); (have hb12 := hb11.trans hb8); (have hs12 := hb12.size); clear hb8 hst8 hc8) | (at_builtin; refine wpList_byte_B rfl _ _ 37 rfl W0.heap.size 5 i0 Tryd.underlying37 HI.out.1 HI.out.2.1 HI.out.2.2.1 HI.out.2.2.2 v8 (M ++ wordL a.what ++ (32 :: Lib.itoa a.who)).length (Lib.byteCells (M ++ wordL a.what ++ (32 :: Lib.itoa a.who))) rfl (hrow8.below ((Below.refl _ w8).alloc (Nat.le_refl _) _)) ⟨w8.heap.size, 0, none⟩ 1 (.int .u8 10) rfl (box_cell _ _ _ _ _ rfl) rfl (by omega) (by simp; omega) ?_; intro vz wz hrowz hbz _))
            have hbf := hb12.trans (((Below.refl _ w8).alloc hs12 _).trans hbz)
            rw [show [Value.int .u8 10] = Lib.byteCells [10] from rfl, cells_app, show (M ++ wordL a.what ++ (32 :: Lib.itoa a.who)).length + 1 = (M ++ wordL a.what ++ (32 :: Lib.itoa a.who) ++ [10]).length by simp; omega] at hrowz
            clear hbz
            go_wp2_with fail
            go_roundw
            case rel => exact ⟨m + 1, M ++ wordL a.what ++ (32 :: Lib.itoa a.who) ++ [10], by omega, by go_num, by rw [HX.out, HA.out, HMe.out]; simp, hrowz, hbf⟩
            case measure => simp [intOf]; omega
        · have hall : p.acts.take m = p.acts := List.take_of_length_le (by omega)
          have hM1 : M = planL p := by rw [HMe.out, HL1.out, hall]; rfl
          subst hM1
          have hrun := RowB.string (P := Tryd.prog) hrow 37 9 Tryd.underlying37 Tryd.underlying5 Tryd.underlying9
          have hbW : Below w.heap.size w wr := below_tr hbx hb
          clear hcb hall hrow hb
          go_wp2_with fail
          go_ret
          exact ⟨rfl, hbW⟩
end Go.Proofs.YtljbclkbmjjmdaaDoor
