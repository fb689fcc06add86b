/- Appending bytes to a slice that '[]byte(s)' made: its row may bear a mark behind its last cell. -/
import Derived.Test.YtljbclkbmjjmdaaGreatDoorB
import Derived.Laws.IdiomStrings
namespace Go.Proofs.YtljbclkbmjjmdaaGreatDoor
open Go.RowKit Go.Shelf
section
variable {P : Program}
/-- The slice v owns the cells xs; no cell of its row is frozen. -/
def RowB (w : World) (base : Nat) (e : TypeId) (v : Value) (n : Nat) (xs : List Value) : Prop :=
  xs.length = n ∧ ∃ g cap cur fz, v = .slice (some ⟨g, 0, none⟩) n cap ∧ base ≤ g ∧ w.heap[g]? = some (.cells cur e fz) ∧ cur.size ≤ fz.1 + (if fz.1 < fz.2 then 0 else cur.size) ∧ n ≤ cap ∧ cap ≤ maxLen ∧ cur.size = cap ∧ cur.toList.take n = xs

theorem store_B (g : Nat) (t : TypeId) (o : Nat) (fz : Nat × Nat) : ∀ (vs : List Value) (i : Nat) (cur : Array Value) (w : World), w.heap[g]? = some (.cells cur t fz) → cur.size ≤ fz.1 + (if fz.1 < fz.2 then 0 else cur.size) → o + i + vs.length ≤ cur.size → (∀ v ∈ vs, v.oneCell' = true) →
    (storeCells ⟨g, o, none⟩ vs i).run P w = .ok () (w.setRow g (cur.toList.take (o + i) ++ vs ++ cur.toList.drop (o + i + vs.length)).toArray)
  | [], i, cur, w, hg, _, _, _ => by
    simp only [storeCells, List.append_nil, List.length_nil, Nat.add_zero, List.take_append_drop, Array.toArray_toList]
    rw [setRow_self w g cur t fz hg]
    rfl
  | v :: rest, i, cur, w, hg, hfz, hl, h1 => by
    have hi : o + i < cur.size := by simp at hl; omega
    have hadd : (⟨g, o, none⟩ : Addr).add i = ⟨g, o + i, none⟩ := by unfold Addr.add; split <;> simp_all
    have hcell : w.cell? ⟨g, o + i, none⟩ = some cur[o + i] := by simp [World.cell?, hg, hi]
    have hfro : w.frozen? ⟨g, o + i, none⟩ = false := by
      obtain ⟨lo, hi'⟩ := fz
      simp only [World.frozen?, hg, Bool.and_eq_false_iff, decide_eq_false_iff_not]
      simp only at hfz
      split at hfz <;> omega
    have hst : (store ((⟨g, o, none⟩ : Addr).add i) v).run P w = .ok () (w.setRow g (cur.setIfInBounds (o + i) v)) := by
      rw [hadd, run_store P w _ v _ (h1 v (by simp)), hcell]
      simp [hfro, setCell_eq_setRow w g (o + i) cur t fz v hg]
    have ih := store_B g t o fz rest (i + 1) (cur.setIfInBounds (o + i) v) (w.setRow g (cur.setIfInBounds (o + i) v)) (setRow_heap w g cur _ t _ hg) (by simpa using hfz) (by simp at hl ⊢; omega) (fun x hx => h1 x (by simp [hx]))
    simp only [storeCells, Sem.run_bind, hst, Result.andThen_ok, ih, setRow_setRow]
    congr 3
    have e := list_seg_step cur.toList (o + i) v rest (by simp at hl ⊢; omega)
    simpa [Array.toList_setIfInBounds, Nat.add_assoc] using e

/-- Both ways of an append, whatever it appends. -/
theorem append_B {w : World} {base : Nat} {e : TypeId} {g n cap : Nat} {xs news : List Value} {f : Value → World → Prop} (hown : RowB w base e (.slice (some ⟨g, 0, none⟩) n cap) n xs) (hbase : base ≤ w.heap.size) (hm : n + news.length ≤ maxLen)
    (hroom : ∀ cur fz, w.heap[g]? = some (.cells cur e fz) → cur.size ≤ fz.1 + (if fz.1 < fz.2 then 0 else cur.size) → n + news.length ≤ cap → n + news.length ≤ cur.size → f (.slice (some ⟨g, 0, none⟩) (n + news.length) cap) (w.setRow g (cur.toList.take n ++ news ++ cur.toList.drop (n + news.length)).toArray))
    (hgrow : (∀ j u, xs[j]? = some u → w.cell? ((⟨g, 0, none⟩ : Addr).add j) = some u) → cap < n + news.length → f (.slice (some ⟨w.heap.size, 0, none⟩) (n + news.length) (grownCap w (n + news.length) cap e)) (w.drew.alloc (.cells (xs.toArray ++ news.toArray ++ Builtin.zeroCells (Value.int .u8 0).cells (grownCap w (n + news.length) cap e - (n + news.length))) e))) :
    ∃ v' w', f v' w' ∧ RowB w' base e v' (n + news.length) (xs ++ news) ∧ w.grownBy w' (some g) ∧ (v'.ownBlock = some g ∨ v'.ownBlock = some w.heap.size) := by
  obtain ⟨hx, g', cap', cur, fz, hv, hbg, hg, hfz, hnc, hcm, hcs, htake⟩ := hown
  injection hv with hv1 _ hv3
  injection hv1 with hv1
  injection hv1 with hv1
  subst hv1 hv3
  have hlen : (xs ++ news).length = n + news.length := by rw [List.length_append, hx]
  by_cases hr : n + news.length ≤ cap
  · refine ⟨_, _, hroom cur fz hg hfz hr (by omega), ⟨hlen, g, cap, _, fz, rfl, hbg, setRow_heap w g cur _ e _ hg, ?_, hr, hcm, ?_, ?_⟩, ⟨rfl, rfl, rfl, by simp, fun k _ hk => setRow_other w g k _ (fun e => hk (by simp [e]))⟩, .inl rfl⟩
    · have : (cur.toList.take n ++ news ++ cur.toList.drop (n + news.length)).toArray.size = cur.size := by
        simp only [List.size_toArray, List.length_append, List.length_take, List.length_drop, Array.length_toList]
        omega
      rw [this]
      exact hfz
    · simp only [List.size_toArray, List.length_append, List.length_take, List.length_drop, Array.length_toList]
      omega
    · rw [htake, ← hlen]
      exact List.take_left
  · have holds : ∀ j u, xs[j]? = some u → w.cell? ((⟨g, 0, none⟩ : Addr).add j) = some u := by
      intro j u hu
      have hadd : (⟨g, 0, none⟩ : Addr).add j = ⟨g, j, none⟩ := by unfold Addr.add; split <;> simp_all
      rw [hadd, cell_of_row w g j cur e fz hg]
      rw [← htake, List.getElem?_take] at hu
      split at hu
      · simpa using hu
      · cases hu
    have hge := grownCap_ge w (n + news.length) cap e
    have hcm2 : grownCap w (n + news.length) cap e ≤ maxLen := grownCap_le_maxLen w (n + news.length) cap e hm
    refine ⟨_, _, hgrow holds (by omega), ⟨hlen, w.heap.size, _, _, (0, 0), rfl, hbase, heap_alloc_new w.drew _, by simp, hge, hcm2, ?_, ?_⟩, ⟨rfl, rfl, rfl, by simp, fun k hk _ => heap_alloc_old w.drew _ hk⟩, .inr rfl⟩
    · have hz1 : (Value.int IntKind.u8 0).cells.size = 1 := rfl
      simp only [Array.size_append, List.size_toArray, size_zeroCells, hz1, hx]
      omega
    · simp only [Array.toList_append, List.append_assoc]
      rw [← List.append_assoc, ← hlen]
      exact List.take_left

theorem RowB.slice {w : World} {base : Nat} {e : TypeId} {v : Value} {n : Nat} {xs : List Value} (h : RowB w base e v n xs) : ∃ g cap, v = .slice (some ⟨g, 0, none⟩) n cap ∧ base ≤ g := by
  obtain ⟨_, g, cap, _, _, hv, hb, _⟩ := h
  exact ⟨g, cap, hv, hb⟩
theorem RowB.below {w w' : World} {base : Nat} {e : TypeId} {v : Value} {n : Nat} {xs : List Value} (h : RowB w base e v n xs) (hb : Below w.heap.size w w') : RowB w' base e v n xs := by
  obtain ⟨hx, g, cap, cur, fz, hv, hbg, hg, r⟩ := h
  exact ⟨hx, g, cap, cur, fz, hv, hbg, (hb.block g (Array.getElem?_eq_some_iff.1 hg).1).trans hg, r⟩
theorem below_grown {B g : Nat} {w w' : World} (hg : w.grownBy w' (some g)) (hB : B ≤ w.heap.size) (h : B ≤ g) : Below B w w' :=
  ⟨hg.os, hg.tape, hg.output, hg.size, fun k hk => hg.block k (by omega) (by intro h'; have := Option.some.inj h'; omega)⟩

/-- What an append does to the world. -/
def RowStep (w w' : World) (v v' : Value) : Prop := w.grownBy w' v.ownBlock ∧ (v'.ownBlock = v.ownBlock ∨ v'.ownBlock = some w.heap.size)
theorem RowStep.box {w w' : World} {v v' : Value} {b : Nat} (h : RowStep w w' v v') (hf : v.ownBlock ≠ some b) (hb : b < w.heap.size) : v'.ownBlock ≠ some b ∧ b < w'.heap.size ∧ ∀ o x, w.cell? ⟨b, o, none⟩ = some x → w'.cell? ⟨b, o, none⟩ = some x := by
  refine ⟨?_, Nat.lt_of_lt_of_le hb h.1.size, fun o x hx => h.1.cell hx (Ne.symm hf)⟩
  rcases h.2 with e | e
  · rw [e]; exact hf
  · rw [e]; intro h'; have := Option.some.inj h'; omega
theorem RowB.fresh {w : World} {base : Nat} {e : TypeId} {v : Value} {n : Nat} {xs : List Value} (h : RowB w base e v n xs) (b : Nat) (hb : w.heap.size ≤ b) : v.ownBlock ≠ some b := by
  obtain ⟨_, g, cap, cur, fz, rfl, _, hg, _⟩ := h
  have := (Array.getElem?_eq_some_iff.1 hg).1
  intro h'
  have := Option.some.inj h'
  simp at this
  omega
theorem wpList_string_B {ops : Array Oper} {rest : List Oper} {o : Oper} {a : Act} {w : World} {Q : Exit → Act → World → Prop} (hgd : o.guard = none) (sl x : Operand) (t u : TypeId)
    (ho : o.op = .call { callee := .builtin .append, args := #[sl, x], argTypes := #[t, u] })
    (base : Nat) (e : TypeId) (i : TypeInfo) (ht : P.underlying t = some (.slice e)) (hu : P.underlying u = some .string) (hi : P.info? e = some i) (hz : i.zero = some (.int .u8 0))
    (hsize : i.size = 1) (hby : i.bytes = 1)
    (v : Value) (n : Nat) (xs : List Value) (hs : a.eval sl = v) (hown : RowB w base e v n xs) (s : ByteArray) (hx : a.eval x = .string s)
    (h63 : n + s.size ≤ 140737488355328) (hbase : base ≤ w.heap.size)
    (h : ∀ v' w', RowB w' base e v' (n + s.size) (xs ++ Lib.strCells s) → Below base w w' → RowStep w w' v v' → wpList P ops Q rest (a.put o.dst v') w') : wpList P ops Q (o :: rest) a w := by
  obtain ⟨g, cap, rfl, hbg⟩ := hown.slice
  have hxl := hown.1
  refine wpList_plain hgd fun K hK => ?_
  obtain ⟨v', w', hr, h2, h3, h4⟩ := append_B (news := Lib.strCells s) (f := fun v' w' => (Builtin.append_ #[t, u] o.type #[.slice (some ⟨g, 0, none⟩) n cap, .string s]).run P w = .ok v' w') hown hbase (by rw [Lib.strCells_length]; unfold maxLen; omega)
    (by
      intro cur fz hg hfz hroom hfit
      have hf := Lib.run_firstCells_string (P := P) w 1 s
      have hst := store_B (P := P) g e n fz (Lib.strCells s) 0 cur w hg hfz (by simpa using hfit) (Lib.strCells_oneCell s)
      simp only [Nat.add_zero, Lib.strCells_length] at hst hroom ⊢
      simp [Builtin.append_, run_underlying ht, run_underlying hu, sizeOf, typeInfo, hi, hsize, Builtin.lenOf, hroom, hf, Addr.add_lit, hst])
    (by
      intro holds hlt
      rw [Lib.strCells_length] at hlt ⊢
      exact Lib.run_append_grow_string (P := P) w t u o.type e i (.int .u8 0) ht hu hi hz ⟨g, 0, none⟩ n cap xs (by rw [hsize]; simpa using hxl) holds s (by omega) (by omega) (by rw [hby]; exact growslice_fits (by omega) (by omega)))
  unfold Oper.wp execOp
  simp only [ho, resolve, invoke, builtin, Sem.run_bind, Sem.run_pure, Result.andThen_ok, List.map_toArray, List.map_cons, List.map_nil, hs, hx, hr]
  rw [Lib.strCells_length] at h2
  exact hK _ _ (h v' w' h2 (below_grown h3 hbase hbg) ⟨h3, h4⟩)

theorem wpList_byte_B {ops : Array Oper} {rest : List Oper} {o : Oper} {a : Act} {w : World} {Q : Exit → Act → World → Prop} (hgd : o.guard = none) (sl x : Operand) (t : TypeId)
    (ho : o.op = .call { callee := .builtin .append, args := #[sl, x], argTypes := #[t, t] })
    (base : Nat) (e : TypeId) (i : TypeInfo) (ht : P.underlying t = some (.slice e)) (hi : P.info? e = some i) (hz : i.zero = some (.int .u8 0))
    (hsize : i.size = 1) (hby : i.bytes = 1)
    (v : Value) (n : Nat) (xs : List Value) (hs : a.eval sl = v) (hown : RowB w base e v n xs) (ad : Addr) (c : Nat) (y : Value) (hx : a.eval x = .slice (some ad) 1 c) (hy : w.cell? ad = some y) (h1 : y.oneCell' = true)
    (h63 : n + 1 ≤ 140737488355328) (hbase : base ≤ w.heap.size)
    (h : ∀ v' w', RowB w' base e v' (n + 1) (xs ++ [y]) → Below base w w' → RowStep w w' v v' → wpList P ops Q rest (a.put o.dst v') w') : wpList P ops Q (o :: rest) a w := by
  obtain ⟨g, cap, rfl, hbg⟩ := hown.slice
  have hxl := hown.1
  have hnews : ∀ j u, [y][j]? = some u → w.cell? (ad.add j) = some u := by
    intro j u hj
    match j, hj with
    | 0, hj => simp at hj; subst hj; rw [show ad.add 0 = ad by (unfold Addr.add; split <;> simp_all)]; exact hy
  have h1' : ∀ u ∈ [y], u.oneCell' = true := by intro u hu; simp at hu; subst hu; exact h1
  refine wpList_plain hgd fun K hK => ?_
  obtain ⟨v', w', hr, h2, h3, h4⟩ := append_B (news := [y]) (f := fun v' w' => (Builtin.append_ #[t, t] o.type #[.slice (some ⟨g, 0, none⟩) n cap, .slice (some ad) 1 c]).run P w = .ok v' w') hown hbase (by simp only [List.length_singleton]; unfold maxLen; omega)
    (by
      intro cur fz hg hfz hroom hfit
      have hf := run_firstCells_some (P := P) w i.size 1 ad 1 c [y] (by rw [hsize]; rfl) hnews
      have hst := store_B (P := P) g e n fz [y] 0 cur w hg hfz (by simpa using hfit) h1'
      simp only [Nat.add_zero, List.length_singleton] at hst hroom ⊢
      rw [hsize] at hf
      simp [Builtin.append_, run_underlying ht, sizeOf, typeInfo, hi, hsize, Builtin.lenOf, hroom, hf, Addr.add_lit, hst])
    (by
      intro holds hlt
      exact run_append_grow (P := P) w t o.type e i (.int .u8 0) ht hi hz ⟨g, 0, none⟩ n cap xs (by rw [hsize]; simpa using hxl) holds ad 1 c [y] (by rw [hsize]; rfl) hnews (by simpa using hlt) (by omega) (by rw [hby]; exact growslice_fits (by simpa using hlt) (by omega)))
  unfold Oper.wp execOp
  simp only [ho, resolve, invoke, builtin, Sem.run_bind, Sem.run_pure, Result.andThen_ok, List.map_toArray, List.map_cons, List.map_nil, hs, hx, hr]
  exact hK _ _ (h v' w' h2 (below_grown h3 hbase hbg) ⟨h3, h4⟩)

/-- What '[]byte(s)' gives. -/
theorem bytes_made (W : World) (e : TypeId) (s : ByteArray) (h : s.size ≤ 140737488355328) :
    RowB (W.drew.alloc (.cells (bytesRow s (grownCap W s.size 0 e)) e ((bytesRow s (grownCap W s.size 0 e)).size, (bytesRow s (grownCap W s.size 0 e)).size + 1))) W.heap.size e (.slice (some ⟨W.heap.size, 0, none⟩) s.size (grownCap W s.size 0 e)) s.size (Lib.strCells s) := by
  have hge := grownCap_ge W s.size 0 e
  refine ⟨Lib.strCells_length s, W.heap.size, _, _, _, rfl, Nat.le_refl _, heap_alloc_new W.drew _, by simp, hge, grownCap_le_maxLen W s.size 0 e (by unfold maxLen; omega), ?_, ?_⟩
  · have : s.data.size = s.size := rfl
    simp only [bytesRow, Array.size_append, Array.size_map, Array.size_replicate, this]
    omega
  · have hl : (s.data.map fun b => Value.int .u8 b.toNat).toList.length = s.size := by simp
    simp only [bytesRow, Array.toList_append]
    rw [List.take_append_of_le_length (by omega), List.take_of_length_le (by omega)]
    simp [Lib.strCells]
end
end Go.Proofs.YtljbclkbmjjmdaaGreatDoor
