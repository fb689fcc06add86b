/- A plan's text, bs it is read: the plain part; no program in sight. -/
import Derived.Test.YtljbclkbmjjmdaaGreatDoorJ
import Derived.Test.YtljbclkbmjjmdaaGreatDoorT6
namespace Go.Proofs.YtljbclkbmjjmdaaGreatDoor
open Go.RowKit Go.Lib
/-- Bytes that spell an event. -/
def EvL (l : List UInt8) (e : Ev) : Prop := IsEv ⟨l.toArray⟩ e
theorem IsEv.eq {s : ByteArray} {a b : Ev} (h : IsEv s a) (k : IsEv s b) : a = b := by
  obtain ⟨c1, c2⟩ := isEv_cut h
  obtain ⟨d1, d2⟩ := isEv_cut k
  rw [c1] at d1
  injection d1 with e1 d1
  injection d1 with e2 _
  rw [← e2, c2] at d2
  injection d2 with e3 d2
  injection d2 with e4 _
  have e1' : a.key = b.key := ba_ext e1
  have e3' := itoa_inj h.2.1.2.1 k.2.1.2.1 e3
  have e4' := itoa_inj h.2.1.2.2 k.2.1.2.2 e4
  cases a; cases b
  simp only at e1' e3' e4'
  subst e1' e3' e4'
  rfl
def All2 {α β : Type} (R : α → β → Prop) : List α → List β → Prop
  | [], [] => True
  | x :: xs, y :: ys => R x y ∧ All2 R xs ys
  | [], _ :: _ => False
  | _ :: _, [] => False
/-- The words behind a source's first one. -/
def SrcIs (xs : List (List UInt8)) (es : List Ev) : Prop := xs.length ≤ 200 ∧ All2 EvL xs es
theorem all2_eq {α β : Type} {R : α → β → Prop} (hR : ∀ x a b, R x a → R x b → a = b) : ∀ {xs : List α} {cs bs : List β}, All2 R xs cs → All2 R xs bs → cs = bs
  | [], [], [], _, _ => rfl
  | x :: xs, a :: cs, b :: bs, h, k => by rw [hR _ _ _ h.1 k.1, all2_eq hR h.2 k.2]
  | [], _ :: _, _, h, _ => h.elim
  | [], [], _ :: _, _, k => k.elim
  | _ :: _, [], _, h, _ => h.elim
  | _ :: _, _ :: _, [], _, k => k.elim
theorem All2.len {α β : Type} {R : α → β → Prop} : ∀ {xs : List α} {bs : List β}, All2 R xs bs → xs.length = bs.length
  | [], [], _ => rfl
  | x :: xs, a :: bs, h => by simp [All2.len h.2]
  | [], _ :: _, h => h.elim
  | _ :: _, [], h => h.elim
theorem All2.snoc {α β : Type} {R : α → β → Prop} {x : α} {y : β} (hr : R x y) : ∀ {xs : List α} {bs : List β}, All2 R xs bs → All2 R (xs ++ [x]) (bs ++ [y])
  | [], [], _ => ⟨hr, trivial⟩
  | _ :: _, _ :: _, h => ⟨h.1, All2.snoc hr h.2⟩
  | [], _ :: _, h => h.elim
  | _ :: _, [], h => h.elim
theorem All2.at_ {α β : Type} {R : α → β → Prop} : ∀ {xs : List α} {bs : List β}, All2 R xs bs → ∀ (i : Nat) (x : α), xs[i]? = some x → ∃ y, bs[i]? = some y ∧ R x y
  | [], [], _, i, x, h => by simp at h
  | a :: _, b :: _, h, 0, x, hx => by simp at hx; subst hx; exact ⟨b, rfl, h.1⟩
  | _ :: _, _ :: _, h, i + 1, x, hx => by obtain ⟨y, h1, h2⟩ := h.2.at_ i x (by simpa using hx); exact ⟨y, by simpa using h1, h2⟩
  | [], _ :: _, h, _, _, _ => h.elim
  | _ :: _, [], h, _, _, _ => h.elim
theorem all2_map {α β : Type} {R : α → β → Prop} {f : β → α} : ∀ {l : List β}, (∀ x ∈ l, R (f x) x) → All2 R (l.map f) l
  | [], _ => trivial
  | x :: l, h => ⟨h x (by simp), all2_map fun y hy => h y (by simp [hy])⟩
theorem SrcIs.eq {xs : List (List UInt8)} {a b : List Ev} (h : SrcIs xs a) (k : SrcIs xs b) : a = b := all2_eq (R := EvL) (fun _ _ _ h k => IsEv.eq h k) h.2 k.2
/-- The words of an act's line. -/
def ActIs (ws : List (List UInt8)) (a : Ac) : Prop :=
  ∃ xs, ws = wordL a.what :: xs ∧ 0 ≤ a.what ∧ a.what ≤ 9 ∧
    ((needs a.what = 0 ∧ xs = [] ∧ a.which = 0 ∧ a.who = 0) ∨
     (needs a.what = 1 ∧ (∃ x, xs = [x] ∧ NumL x a.which) ∧ a.which ≤ 1000000 ∧ a.who = 0) ∨
     (needs a.what = 2 ∧ (∃ x, xs = [x] ∧ NumL x a.who) ∧ a.who ≤ 1000000 ∧ a.which = 0))
theorem wordL_inj {a b : Int} (ha : 0 ≤ a ∧ a ≤ 9) (hb : 0 ≤ b ∧ b ≤ 9) (h : wordL a = wordL b) : a = b := by
  have ca : a = 0 ∨ a = 1 ∨ a = 2 ∨ a = 3 ∨ a = 4 ∨ a = 5 ∨ a = 6 ∨ a = 7 ∨ a = 8 ∨ a = 9 := by omega
  have cb : b = 0 ∨ b = 1 ∨ b = 2 ∨ b = 3 ∨ b = 4 ∨ b = 5 ∨ b = 6 ∨ b = 7 ∨ b = 8 ∨ b = 9 := by omega
  rcases ca with rfl | rfl | rfl | rfl | rfl | rfl | rfl | rfl | rfl | rfl <;> rcases cb with rfl | rfl | rfl | rfl | rfl | rfl | rfl | rfl | rfl | rfl <;> first | rfl | (exfalso; revert h; decide)
theorem ActIs.eq {ws : List (List UInt8)} {a b : Ac} (h : ActIs ws a) (k : ActIs ws b) : a = b := by
  obtain ⟨xs, e, h0, h9, h⟩ := h
  obtain ⟨ys, e', k0, k9, k⟩ := k
  rw [e] at e'
  injection e' with e1 e2
  subst e2
  have ew := wordL_inj ⟨h0, h9⟩ ⟨k0, k9⟩ e1
  obtain ⟨aw, ao, ah⟩ := a
  obtain ⟨bw, bo, bh⟩ := b
  dsimp only at *
  subst ew
  rcases h with ⟨n, hx, hw, ho⟩ | ⟨n, ⟨x, hx, hn⟩, hw, ho⟩ | ⟨n, ⟨x, hx, hn⟩, hw, ho⟩ <;> rcases k with ⟨n', kx, kw, ko⟩ | ⟨n', ⟨y, kx, kn⟩, kw, ko⟩ | ⟨n', ⟨y, kx, kn⟩, kw, ko⟩ <;> first | omega | skip
  · rw [hw, ho, kw, ko]
  · rw [hx] at kx; injection kx with kx _; subst kx; rw [hn.eq kn, ho, ko]
  · rw [hx] at kx; injection kx with kx _; subst kx; rw [hn.eq kn, ho, ko]
def zeroP : Pl := ⟨zeroJ, [], 0, []⟩
/-- Is a line a source's, where so much was read before? -/
def SrcLine (ws : List (List UInt8)) (p : Pl) : Prop := p.acts = [] ∧ (∃ xs, ws = srcWord :: xs) ∧ p.inputs.length < 4
/-- What is read of the lines behind the workers', so many lines being read. -/
inductive ScrRun : Int → List UInt8 → Pl → Pl → Int → Int → Prop where
  | fin (n : Int) (p : Pl) (h : p.inputs ≠ []) : ScrRun n [] p p 0 0
  | none (n : Int) (p : Pl) (h : p.inputs = []) : ScrRun n [] p zeroP 240 (n + 1)
  | open_ (n : Int) (l : List UInt8) (p : Pl) (h : l ≠ []) (hc : ∀ a b, ¬ Cut10 l a b) : ScrRun n l p zeroP 240 (n + 1)
  | src (n : Int) (l a b : List UInt8) (p x : Pl) (xs : List (List UInt8)) (es : List Ev) (e m : Int) (hc : Cut10 l a b) (hw : wordsL 32 a = srcWord :: xs) (hs : SrcLine (wordsL 32 a) p) (h : SrcIs xs es) (hr : ScrRun (n + 1) b { p with inputs := p.inputs ++ [es] } x e m) : ScrRun n l p x e m
  | srcBad (n : Int) (l a b : List UInt8) (p : Pl) (xs : List (List UInt8)) (hc : Cut10 l a b) (hw : wordsL 32 a = srcWord :: xs) (hs : SrcLine (wordsL 32 a) p) (h : ∀ es, ¬ SrcIs xs es) : ScrRun n l p zeroP 240 (n + 1)
  | act (n : Int) (l a b : List UInt8) (p x : Pl) (c : Ac) (e m : Int) (hc : Cut10 l a b) (hs : ¬ SrcLine (wordsL 32 a) p) (h : ActIs (wordsL 32 a) c) (hi : p.inputs ≠ []) (ha : p.acts.length < 400) (hr : ScrRun (n + 1) b { p with acts := p.acts ++ [c] } x e m) : ScrRun n l p x e m
  | actBad (n : Int) (l a b : List UInt8) (p : Pl) (hc : Cut10 l a b) (hs : ¬ SrcLine (wordsL 32 a) p) (h : (∀ c, ¬ ActIs (wordsL 32 a) c) ∨ p.inputs = [] ∨ ¬ p.acts.length < 400) : ScrRun n l p zeroP 240 (n + 1)
theorem cut10_ne {l a b : List UInt8} (h : Cut10 l a b) : l ≠ [] := by rw [h.1]; simp
theorem ScrRun.eq {n : Int} {l : List UInt8} {p x y : Pl} {e m f k : Int} (h : ScrRun n l p x e m) : ScrRun n l p y f k → x = y ∧ e = f ∧ m = k := by
  induction h with
  | fin n p h =>
    intro g
    cases g with
    | fin => exact ⟨rfl, rfl, rfl⟩
    | none _ _ h' => exact absurd h' h
    | open_ _ _ _ h' => exact absurd rfl h'
    | src _ _ _ _ _ _ _ _ _ _ hc => exact absurd rfl (cut10_ne hc)
    | srcBad _ _ _ _ _ _ hc => exact absurd rfl (cut10_ne hc)
    | act _ _ _ _ _ _ _ _ _ hc => exact absurd rfl (cut10_ne hc)
    | actBad _ _ _ _ _ hc => exact absurd rfl (cut10_ne hc)
  | none n p h =>
    intro g
    cases g with
    | fin _ _ h' => exact absurd h h'
    | none => exact ⟨rfl, rfl, rfl⟩
    | open_ => exact ⟨rfl, rfl, rfl⟩
    | src _ _ _ _ _ _ _ _ _ _ hc => exact absurd rfl (cut10_ne hc)
    | srcBad => exact ⟨rfl, rfl, rfl⟩
    | act _ _ _ _ _ _ _ _ _ hc => exact absurd rfl (cut10_ne hc)
    | actBad => exact ⟨rfl, rfl, rfl⟩
  | open_ n l p h hc =>
    intro g
    cases g with
    | fin => exact absurd rfl h
    | none => exact ⟨rfl, rfl, rfl⟩
    | open_ => exact ⟨rfl, rfl, rfl⟩
    | src _ _ _ _ _ _ _ _ _ _ hc' => exact absurd hc' (hc _ _)
    | srcBad => exact ⟨rfl, rfl, rfl⟩
    | act _ _ _ _ _ _ _ _ _ hc' => exact absurd hc' (hc _ _)
    | actBad => exact ⟨rfl, rfl, rfl⟩
  | src n l a b p x xs es e m hc hw hs h hr ih =>
    intro g
    cases g with
    | fin => exact absurd rfl (cut10_ne hc)
    | none => exact absurd rfl (cut10_ne hc)
    | open_ _ _ _ _ h' => exact absurd hc (h' _ _)
    | src _ _ a' b' _ _ xs' es' _ _ hc' hw' hs' h' hr' =>
      obtain ⟨rfl, rfl⟩ := hc.eq hc'
      rw [hw] at hw'
      injection hw' with _ e'
      subst e'
      obtain rfl := h.eq h'
      exact ih hr'
    | srcBad _ _ a' b' _ xs' hc' hw' hs' h' =>
      obtain ⟨rfl, rfl⟩ := hc.eq hc'
      rw [hw] at hw'
      injection hw' with _ e'
      subst e'
      exact absurd h (h' _)
    | act _ _ _ _ _ _ _ _ _ hc' hs' => obtain ⟨rfl, rfl⟩ := hc.eq hc'; exact absurd hs hs'
    | actBad _ _ _ _ _ hc' hs' => obtain ⟨rfl, rfl⟩ := hc.eq hc'; exact absurd hs hs'
  | srcBad n l a b p xs hc hw hs h =>
    intro g
    cases g with
    | fin => exact absurd rfl (cut10_ne hc)
    | none => exact ⟨rfl, rfl, rfl⟩
    | open_ => exact ⟨rfl, rfl, rfl⟩
    | src _ _ a' b' _ _ xs' es' _ _ hc' hw' hs' h' hr' =>
      obtain ⟨rfl, rfl⟩ := hc.eq hc'
      rw [hw] at hw'
      injection hw' with _ e'
      subst e'
      exact absurd h' (h _)
    | srcBad => exact ⟨rfl, rfl, rfl⟩
    | act _ _ _ _ _ _ _ _ _ hc' hs' => obtain ⟨rfl, rfl⟩ := hc.eq hc'; exact absurd hs hs'
    | actBad => exact ⟨rfl, rfl, rfl⟩
  | act n l a b p x c e m hc hs h hi ha hr ih =>
    intro g
    cases g with
    | fin => exact absurd rfl (cut10_ne hc)
    | none => exact absurd rfl (cut10_ne hc)
    | open_ _ _ _ _ h' => exact absurd hc (h' _ _)
    | src _ _ a' b' _ _ xs' es' _ _ hc' hw' hs' h' hr' => obtain ⟨rfl, rfl⟩ := hc.eq hc'; exact absurd hs' hs
    | srcBad _ _ a' b' _ xs' hc' hw' hs' h' => obtain ⟨rfl, rfl⟩ := hc.eq hc'; exact absurd hs' hs
    | act _ _ _ _ _ _ _ _ _ hc' hs' h' hi' ha' hr' =>
      obtain ⟨rfl, rfl⟩ := hc.eq hc'
      obtain rfl := h.eq h'
      exact ih hr'
    | actBad _ _ _ _ _ hc' hs' h' =>
      obtain ⟨rfl, rfl⟩ := hc.eq hc'
      rcases h' with h' | h' | h'
      · exact absurd h (h' _)
      · exact absurd h' hi
      · exact absurd ha h'
  | actBad n l a b p hc hs h =>
    intro g
    cases g with
    | fin => exact absurd rfl (cut10_ne hc)
    | none => exact ⟨rfl, rfl, rfl⟩
    | open_ => exact ⟨rfl, rfl, rfl⟩
    | src _ _ a' b' _ _ xs' es' _ _ hc' hw' hs' h' hr' => obtain ⟨rfl, rfl⟩ := hc.eq hc'; exact absurd hs' hs
    | srcBad => exact ⟨rfl, rfl, rfl⟩
    | act _ _ _ _ _ _ _ _ _ hc' hs' h' hi' ha' hr' =>
      obtain ⟨rfl, rfl⟩ := hc.eq hc'
      rcases h with h | h | h
      · exact absurd h' (h _)
      · exact absurd h hi'
      · exact absurd ha' h
    | actBad => exact ⟨rfl, rfl, rfl⟩
/-- The first so many lines that are ended (fewer, where there are no more), and what is left. -/
inductive Heads : Nat → List UInt8 → List UInt8 → List UInt8 → Prop where
  | stop (l : List UInt8) : Heads 0 l [] l
  | short (k : Nat) (l : List UInt8) (h : ∀ a b, ¬ Cut10 l a b) : Heads (k + 1) l [] l
  | line (k : Nat) (l a b x y : List UInt8) (hc : Cut10 l a b) (hr : Heads k b x y) : Heads (k + 1) l (a ++ 10 :: x) y
theorem Heads.eq {k : Nat} {l x y x' y' : List UInt8} (h : Heads k l x y) : Heads k l x' y' → x = x' ∧ y = y' := by
  induction h generalizing x' y' with
  | stop => intro g; cases g; exact ⟨rfl, rfl⟩
  | short k l h =>
    intro g
    cases g with
    | short => exact ⟨rfl, rfl⟩
    | line _ _ _ _ _ _ hc => exact absurd hc (h _ _)
  | line k l a b x y hc hr ih =>
    intro g
    cases g with
    | short _ _ h => exact absurd hc (h _ _)
    | line _ _ _ _ _ _ hc' hr' =>
      obtain ⟨rfl, rfl⟩ := hc.eq hc'
      obtain ⟨rfl, rfl⟩ := ih hr'
      exact ⟨rfl, rfl⟩
theorem Heads.app {k : Nat} {l x y : List UInt8} (h : Heads k l x y) : l = x ++ y := by
  induction h with
  | stop => rfl
  | short => rfl
  | line k l a b x y hc hr ih => rw [hc.1, ih]; simp
/-- The workers' line. -/
def WorkIs (a : List UInt8) (n : Int) : Prop := ∃ x, wordsL 32 a = [workersWord, x] ∧ NumL x n ∧ 1 ≤ n ∧ n ≤ 8
theorem WorkIs.eq {a : List UInt8} {n m : Int} (h : WorkIs a n) (k : WorkIs a m) : n = m := by
  obtain ⟨x, e, h, _⟩ := h
  obtain ⟨y, e', k, _⟩ := k
  rw [e] at e'
  injection e' with _ e'
  injection e' with e' _
  subst e'
  exact h.eq k
/-- What is read of a text. -/
inductive PlanRun : List UInt8 → Pl → Int → Int → Prop where
  | job (l h t : List UInt8) (j : Jb) (e n : Int) (hh : Heads 6 l h t) (hj : JobRun 1 h zeroJ j e n) (he : e ≠ 0) : PlanRun l zeroP e n
  | seven (l h t : List UInt8) (j : Jb) (n : Int) (hh : Heads 6 l h t) (hj : JobRun 1 h zeroJ j 0 n) (hw : ∀ a b m, Cut10 t a b → ¬ WorkIs a m) : PlanRun l zeroP 240 7
  | go (l h t a b : List UInt8) (j : Jb) (n m : Int) (x : Pl) (e k : Int) (hh : Heads 6 l h t) (hj : JobRun 1 h zeroJ j 0 n) (hc : Cut10 t a b) (hw : WorkIs a m) (hr : ScrRun 7 b ⟨j, [], m, []⟩ x e k) : PlanRun l x e k
theorem PlanRun.eq {l : List UInt8} {x y : Pl} {e n f m : Int} (h : PlanRun l x e n) (g : PlanRun l y f m) : x = y ∧ e = f ∧ n = m := by
  cases h with
  | job h t j _ _ hh hj he =>
    cases g with
    | job h' t' j' _ _ hh' hj' he' => obtain ⟨rfl, rfl⟩ := hh.eq hh'; have := hj.eq hj'; exact ⟨rfl, this.2⟩
    | seven h' t' j' _ hh' hj' => obtain ⟨rfl, rfl⟩ := hh.eq hh'; exact absurd (hj.eq hj').2.1 he
    | go h' t' _ _ j' _ _ _ _ _ hh' hj' => obtain ⟨rfl, rfl⟩ := hh.eq hh'; exact absurd (hj.eq hj').2.1 he
  | seven h t j _ hh hj hw =>
    cases g with
    | job h' t' j' _ _ hh' hj' he' => obtain ⟨rfl, rfl⟩ := hh.eq hh'; exact absurd (hj.eq hj').2.1.symm he'
    | seven => exact ⟨rfl, rfl, rfl⟩
    | go h' t' _ _ j' _ _ _ _ _ hh' hj' hc' hw' => obtain ⟨rfl, rfl⟩ := hh.eq hh'; exact absurd hw' (hw _ _ _ hc')
  | go h t a b j _ n _ _ _ hh hj hc hw hr =>
    cases g with
    | job h' t' j' _ _ hh' hj' he' => obtain ⟨rfl, rfl⟩ := hh.eq hh'; exact absurd (hj.eq hj').2.1.symm he'
    | seven h' t' j' _ hh' hj' hw' => obtain ⟨rfl, rfl⟩ := hh.eq hh'; exact absurd hw (hw' _ _ _ hc)
    | go h' t' a' b' j' _ n' _ _ _ hh' hj' hc' hw' hr' =>
      obtain ⟨rfl, rfl⟩ := hh.eq hh'
      obtain ⟨rfl, rfl⟩ := hc.eq hc'
      obtain rfl := (hj.eq hj').1
      obtain rfl := hw.eq hw'
      exact hr.eq hr'
end Go.Proofs.YtljbclkbmjjmdaaGreatDoor
