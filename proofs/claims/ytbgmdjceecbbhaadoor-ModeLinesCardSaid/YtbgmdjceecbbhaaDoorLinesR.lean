/-
  The law ModeLines, plain: all four ways of telling; no condition beyond those that each theorem states.
-/
import Derived.Test.YtbgmdjceecbbhaaDoorLinesQ
namespace Go.Proofs.YtbgmdjceecbbhaaDoor
open Go.RowKit Go.Rb

/-- The document's answer of the first i rows. -/
def refL (tell be af : Nat) (l : List Rw) (i : Nat) (en : Bool) : List (List UInt8) := match tell with
  | 0 => allN l i
  | 1 => firstN l i
  | 2 => if en then [cl2 (recN l i) (hitN l i)] else []
  | _ => (emitI l (tI l be af i) i).1
def refB (tell : Nat) (l : List Rw) (i : Nat) : Bool := tell == 1 && firstB l i
theorem gAt_take (l : List Rw) (i j : Nat) (h : j < i) : gAt (l.take i) j = gAt l j := by unfold gAt; rw [List.getElem?_take, if_pos h]
theorem rAt_take (l : List Rw) (i j : Nat) (h : j < i) : rAt (l.take i) j = rAt l j := by unfold rAt; rw [List.getElem?_take, if_pos h]
theorem hitAt_take' (l : List Rw) (i j : Nat) (h : j < i) : hitAt (l.take i) j = hitAt l j := by rw [hitAt_take]; simp [h]
theorem stats_take (l : List Rw) (i : Nat) : ∀ j, j ≤ i → allN (l.take i) j = allN l j ∧ firstN (l.take i) j = firstN l j ∧ firstB (l.take i) j = firstB l j ∧ recN (l.take i) j = recN l j ∧ hitN (l.take i) j = hitN l j
  | 0, _ => ⟨rfl, rfl, rfl, rfl, rfl⟩
  | j + 1, h => by
    obtain ⟨e1, e2, e3, e4, e5⟩ := stats_take l i j (by omega)
    refine ⟨?_, ?_, ?_, ?_, ?_⟩
    · show allN _ j ++ _ = allN _ j ++ _
      rw [e1, gAt_take l i j (by omega), rAt_take l i j (by omega)]
    · show (if firstN _ j = [] then (if hitAt _ j then [line (rAt _ j) 58] else []) else firstN _ j) = (if firstN _ j = [] then (if hitAt _ j then [line (rAt _ j) 58] else []) else firstN _ j)
      rw [e2, hitAt_take' l i j (by omega), rAt_take l i j (by omega)]
    · show (firstB _ j || _) = (firstB _ j || _)
      rw [e3, hitAt_take' l i j (by omega)]
    · show recN _ j + _ = recN _ j + _
      rw [e4, hitAt_take' l i j (by omega)]
    · show hitN _ j + _ = hitN _ j + _
      rw [e5, gAt_take l i j (by omega)]
/-- The document's answer of a beginning of the rows, as the contracts have it. -/
theorem refL_take (tell be af : Nat) (l : List Rw) (i : Nat) (en : Bool) : refL tell be af (l.take i) i en = refL tell be af l i en := by
  obtain ⟨e1, e2, e3, e4, e5⟩ := stats_take l i i (Nat.le_refl _)
  unfold refL
  split
  · exact e1
  · exact e2
  · rw [e4, e5]
  · rw [emitI_take]
    congr 1
    refine emitI_congr _ _ _ _ i fun j hj => ⟨rfl, rfl, ?_⟩
    unfold tI
    rw [List.take_take, Nat.min_self]
theorem refB_take (tell : Nat) (l : List Rw) (i : Nat) : refB tell (l.take i) i = refB tell l i := by
  unfold refB; rw [(stats_take l i i (Nat.le_refl _)).2.2.1]
def first_ (be af : Nat) : Ts := { new_ 1 be af with over := true, enough := true }
def count_ (be af r h : Nat) : Ts := { new_ 2 be af with records := r, hits := h }
def LI (tell be af : Nat) (l : List Rw) (i : Nat) (s : Ts) : Prop := match tell with
  | 0 => s = new_ 0 be af
  | 1 => (firstN l i = [] ∧ firstB l i = false ∧ s = new_ 1 be af) ∨ (firstN l i ≠ [] ∧ firstB l i = true ∧ s = first_ be af)
  | 2 => s = count_ be af (recN l i) (hitN l i)
  | _ => ∃ m u, KL l be af i s m u
theorem LI.begin_ (tell be af : Nat) (ht : tell ≤ 3) (l : List Rw) : LI tell be af l 0 (new_ tell be af) ∧ refL tell be af l 0 false = [] := by
  rcases (by omega : tell = 0 ∨ tell = 1 ∨ tell = 2 ∨ tell = 3) with rfl | rfl | rfl | rfl
  · exact ⟨rfl, rfl⟩
  · exact ⟨.inl ⟨rfl, rfl, rfl⟩, rfl⟩
  · exact ⟨rfl, rfl⟩
  · exact ⟨⟨0, 0, KL.begin_ l be af⟩, rfl⟩
theorem LI.step {tell be af : Nat} (ht : tell ≤ 3) {l : List Rw} {i : Nat} {s : Ts} (h : LI tell be af l i s) (x : Rw) (hx : l[i]? = some x) :
    refL tell be af l (i + 1) false = refL tell be af l i false ++ (add s x.r x.hs).1 ∧ LI tell be af l (i + 1) (add s x.r x.hs).2 := by
  have hr : rAt l i = x.r := by unfold rAt; rw [hx]
  have hg : gAt l i = x.g := by unfold gAt; rw [hx]
  have hh : hitAt l i = decide (0 < x.g.length) := by unfold hitAt; rw [hx]
  have hgl : x.hs.filter (good x.r.t.length) = x.g := rfl
  rcases (by omega : tell = 0 ∨ tell = 1 ∨ tell = 2 ∨ tell = 3) with rfl | rfl | rfl | rfl
  · have h : s = new_ 0 be af := h
    subst h
    have e : add (new_ 0 be af) x.r x.hs = (x.g.map (hline x.r), new_ 0 be af) := by simp [add, new_, Rw.g]
    rw [e]
    refine ⟨?_, rfl⟩
    show allN l i ++ (gAt l i).map (hline (rAt l i)) = _
    rw [hr, hg]; rfl
  · have h : (firstN l i = [] ∧ firstB l i = false ∧ s = new_ 1 be af) ∨ (firstN l i ≠ [] ∧ firstB l i = true ∧ s = first_ be af) := h
    have ef : firstN l (i + 1) = if firstN l i = [] then (if hitAt l i then [line (rAt l i) 58] else []) else firstN l i := rfl
    have eb : firstB l (i + 1) = (firstB l i || hitAt l i) := rfl
    show firstN l (i + 1) = firstN l i ++ _ ∧ ((firstN l (i + 1) = [] ∧ firstB l (i + 1) = false ∧ _) ∨ (firstN l (i + 1) ≠ [] ∧ firstB l (i + 1) = true ∧ _))
    rw [ef, eb]
    rcases h with ⟨h1, h2, rfl⟩ | ⟨h1, h2, rfl⟩
    · rcases Nat.eq_zero_or_pos x.g.length with h0 | h0
      · have e : add (new_ 1 be af) x.r x.hs = ([], new_ 1 be af) := by simp [add, new_, hgl, h0]
        rw [e, h1, h2, hh, h0]
        exact ⟨rfl, .inl ⟨rfl, rfl, rfl⟩⟩
      · have e : add (new_ 1 be af) x.r x.hs = ([line x.r 58], first_ be af) := by
          have : x.g.length ≠ 0 := by omega
          simp [add, new_, first_, hgl, this]
        rw [e, h1, h2, hh, decide_eq_true h0, hr]
        exact ⟨rfl, .inr ⟨by simp, rfl, rfl⟩⟩
    · have e : add (first_ be af) x.r x.hs = ([], first_ be af) := by simp [add, first_]
      rw [e, if_neg h1, h2]
      exact ⟨by simp, .inr ⟨h1, rfl, rfl⟩⟩
  · have h : s = count_ be af (recN l i) (hitN l i) := h
    subst h
    have er : recN l (i + 1) = recN l i + if hitAt l i then 1 else 0 := rfl
    have eh : hitN l (i + 1) = hitN l i + (gAt l i).length := rfl
    refine ⟨?_, ?_⟩
    · have e : (add (count_ be af (recN l i) (hitN l i)) x.r x.hs).1 = [] := by
        unfold add count_ new_
        simp only [hgl]
        rcases Nat.eq_zero_or_pos x.g.length with h0 | h0
        · simp [h0]
        · have : x.g.length ≠ 0 := by omega
          simp [this]
      rw [e]; rfl
    · show (add _ _ _).2 = count_ be af (recN l (i + 1)) (hitN l (i + 1))
      rw [er, eh, hh, hg]
      rcases Nat.eq_zero_or_pos x.g.length with h0 | h0
      · simp [add, count_, new_, hgl, h0]
      · have : x.g.length ≠ 0 := by omega
        simp [add, count_, new_, hgl, this, h0]
  · obtain ⟨m, u, hk⟩ : ∃ m u, KL l be af i s m u := h
    have e : add s x.r x.hs = ctx s (rAt l i) (hitAt l i) := by
      unfold add
      rw [if_neg (by rw [hk.ho]; decide), if_neg (by rw [hk.ht]; decide), if_pos hk.ht, hgl, hh, hr]
    rw [e]
    cases hv : hitAt l i with
    | true =>
      obtain ⟨e1, e2⟩ := hk.step_yes hv
      exact ⟨e1, 0, 0, e2⟩
    | false =>
      obtain ⟨m', u', e1, e2⟩ := hk.step_no hv
      exact ⟨e1, m', u', e2⟩
/-- The first i rows are short. -/
def FitI (l : List Rw) (i : Nat) : Prop := ∀ j (h : j < l.length), j < i → l[j].hs.length ≤ 10 ∧ l[j].r.t.length ≤ 60 ∧ I64 l[j].r.n
theorem FitI.take {l : List Rw} {i : Nat} (h : FitI l i) : Fit (l.take i) := fun j hj => by
  rw [List.length_take] at hj
  have := h j (by omega) (by omega)
  rw [List.getElem_take]
  exact ⟨by omega, this.2.1⟩
theorem runR_fit {l : List Rw} {i : Nat} (h : FitI l i) : ∀ m c, c + m ≤ i → c + m ≤ l.length → ∀ x ∈ runR l c m, I64 x.n ∧ x.t.length ≤ 60
  | 0, _, _, _, x, hx => by simp [runR] at hx
  | m + 1, c, h1, h2, x, hx => by
    rcases List.mem_cons.1 hx with rfl | hx
    · have := h c (by omega) (by omega)
      rw [rAt_get l c (by omega)]
      exact ⟨this.2.2, this.2.1⟩
    · exact runR_fit h m (c + 1) (by omega) (by omega) x hx
theorem hitN_le10 {l : List Rw} {i : Nat} (h : FitI l i) (hi : i ≤ l.length) : ∀ j, j ≤ i → hitN l j ≤ 10 * j
  | 0, _ => Nat.le_refl _
  | j + 1, hj => by
    have := hitN_le10 h hi j (by omega)
    show hitN l j + (gAt l j).length ≤ _
    have : (gAt l j).length ≤ 10 := by
      rw [gAt_get l j (by omega)]
      have := filter_le l[j]
      have := (h j (by omega) (by omega)).1
      omega
    omega
theorem LI.fit {tell be af : Nat} (ht : tell ≤ 3) (hb : be ≤ 16) (ha : af ≤ 16) {l : List Rw} {i : Nat} {s : Ts} (h : LI tell be af l i s) (hf : FitI l i) (hi : i ≤ l.length) (h30 : i ≤ 30) :
    (0 ≤ s.tell ∧ s.tell ≤ 3) ∧ (0 ≤ s.records ∧ s.records ≤ 1000) ∧ (0 ≤ s.hits ∧ s.hits ≤ 1000000) ∧ (∀ x ∈ s.held, I64 x.n ∧ x.t.length ≤ 60) ∧ s.held.length ≤ 100 ∧ s.more ≤ 1000 := by
  rcases (by omega : tell = 0 ∨ tell = 1 ∨ tell = 2 ∨ tell = 3) with rfl | rfl | rfl | rfl
  · have h : s = new_ 0 be af := h
    subst h; simp [new_]
  · rcases (show (firstN l i = [] ∧ firstB l i = false ∧ s = new_ 1 be af) ∨ (firstN l i ≠ [] ∧ firstB l i = true ∧ s = first_ be af) from h) with ⟨-, -, rfl⟩ | ⟨-, -, rfl⟩ <;> simp [new_, first_]
  · have h : s = count_ be af (recN l i) (hitN l i) := h
    subst h
    have := recN_le l i
    have := hitN_le10 hf hi i (Nat.le_refl _)
    simp [count_, new_]; omega
  · obtain ⟨m, u, hk⟩ : ∃ m u, KL l be af i s m u := h
    refine ⟨by rw [hk.ht]; omega, by rw [hk.e1]; omega, by rw [hk.e2]; omega, ?_, ?_, ?_⟩
    · rw [hk.hh]
      have := hk.hm; have := hk.hu
      exact runR_fit hf m (i - m) (by omega) (by omega)
    · rw [hk.hh, runR_len]; have := hk.hm; omega
    · rcases hk.mo with ⟨-, g, -⟩ | ⟨hp, -, -, -, g, -⟩ <;> omega
theorem LI.enough {tell be af : Nat} (ht : tell ≤ 3) {l : List Rw} {i : Nat} {s : Ts} (h : LI tell be af l i s) : s.enough = refB tell l i := by
  rcases (by omega : tell = 0 ∨ tell = 1 ∨ tell = 2 ∨ tell = 3) with rfl | rfl | rfl | rfl
  · have h : s = new_ 0 be af := h
    subst h; rfl
  · rcases (show (firstN l i = [] ∧ firstB l i = false ∧ s = new_ 1 be af) ∨ (firstN l i ≠ [] ∧ firstB l i = true ∧ s = first_ be af) from h) with ⟨-, g, rfl⟩ | ⟨-, g, rfl⟩
    · show false = (true && firstB l i); rw [g]; rfl
    · show true = (true && firstB l i); rw [g]; rfl
  · have h : s = count_ be af (recN l i) (hitN l i) := h
    subst h; rfl
  · obtain ⟨m, u, hk⟩ : ∃ m u, KL l be af i s m u := h
    rw [hk.he]; rfl
/-- How much may be held. -/
def heldB (tell be : Nat) (l : List Rw) (i : Nat) : Nat := if tell = 3 then heldN (runR l (i - min be i) (min be i)) else 0
theorem LI.heldLe {tell be af : Nat} (ht : tell ≤ 3) {l : List Rw} {i : Nat} {s : Ts} (h : LI tell be af l i s) : heldN s.held ≤ heldB tell be l i := by
  rcases (by omega : tell = 0 ∨ tell = 1 ∨ tell = 2 ∨ tell = 3) with rfl | rfl | rfl | rfl
  · have h : s = new_ 0 be af := h
    subst h; simp [new_, heldN]
  · rcases (show (firstN l i = [] ∧ firstB l i = false ∧ s = new_ 1 be af) ∨ (firstN l i ≠ [] ∧ firstB l i = true ∧ s = first_ be af) from h) with ⟨-, g, rfl⟩ | ⟨-, g, rfl⟩ <;> simp [new_, first_, heldN]
  · have h : s = count_ be af (recN l i) (hitN l i) := h
    subst h; simp [count_, new_, heldN]
  · obtain ⟨m, u, hk⟩ : ∃ m u, KL l be af i s m u := h
    rw [hk.hh]
    unfold heldB
    rw [if_pos rfl]
    exact heldN_more l i m (min be i) (by have := hk.hm; have := hk.hu; omega) (by omega)
theorem LI.end_ {tell be af : Nat} (ht : tell ≤ 3) {l : List Rw} {i : Nat} {s : Ts} (h : LI tell be af l i s) : refL tell be af l i true = refL tell be af l i false ++ endL s := by
  rcases (by omega : tell = 0 ∨ tell = 1 ∨ tell = 2 ∨ tell = 3) with rfl | rfl | rfl | rfl
  · have h : s = new_ 0 be af := h
    subst h; simp [refL, endL, new_]
  · rcases (show (firstN l i = [] ∧ firstB l i = false ∧ s = new_ 1 be af) ∨ (firstN l i ≠ [] ∧ firstB l i = true ∧ s = first_ be af) from h) with ⟨-, g, rfl⟩ | ⟨-, g, rfl⟩ <;> simp [refL, endL, new_, first_]
  · have h : s = count_ be af (recN l i) (hitN l i) := h
    subst h; simp [refL, endL, count_, new_, cline, cl2]
  · obtain ⟨m, u, hk⟩ : ∃ m u, KL l be af i s m u := h
    have e : endL s = [] := by unfold endL; rw [if_pos (.inr (by rw [hk.ht]; decide))]
    rw [e]; simp [refL]
theorem refL_len {tell be af : Nat} {l : List Rw} {i : Nat} (hf : FitI l i) (hi : i ≤ l.length) (en : Bool) : (refL tell be af l i en).length ≤ 10 * i + 1 := by
  unfold refL
  split
  · rw [allN_len]; have := hitN_le10 hf hi i (Nat.le_refl _); omega
  · have : ∀ j, (firstN l j).length ≤ 1 := by
      intro j
      induction j with
      | zero => simp [firstN]
      | succ j ih =>
        show (if firstN l j = [] then (if hitAt l j then [line (rAt l j) 58] else []) else firstN l j).length ≤ 1
        split
        · split <;> simp
        · exact ih
    have := this i; omega
  · split <;> simp
  · have := emitI_len l (tI l be af i) i; omega
theorem Rws.take_ {w : World} {B : Nat} {A : Option Addr} {n : Nat} {l : List Rw} (h : Rws w B A n l) (k : Nat) (hk : k ≤ n) : Rws w B A k (l.take k) := by
  refine ⟨by rw [List.length_take, h.1]; omega, fun j hj => ?_⟩
  have hj' : j < l.length := by rw [List.length_take] at hj; omega
  obtain ⟨pb, po, Ah, ch, e, hx⟩ := h.2 j hj'
  refine ⟨pb, po, Ah, ch, e, ?_⟩
  rw [List.getElem_take]; exact hx
set_option maxHeartbeats 400000 in
/-- The contract of Lines at all four ways, of a beginning. -/
theorem lines_any (tell be af : Nat) (ht : tell ≤ 3) (hb : be ≤ 16) (ha : af ≤ 16) (l : List Rw) (A : Option Addr) (n c B k : Nat) (en : Bool) (w : World) (hr : Rws w B A n l) (hB : B ≤ w.heap.size) (hf : FitI l k) (hk : k ≤ n) (hn : n ≤ 30) :
    Calls Tryd.prog 15 #[.int .i64 (tell : Int), .int .i64 be, .int .i64 af, .slice A k c, .bool en] w fun e w' => ∃ v, e = .returned (.tuple #[v, .bool (refB tell l k)]) ∧ Own w' 9 1 v (refL tell be af l k en).length (lns (refL tell be af l k en)) ∧ (∀ k, v.ownBlock = some k → w.heap.size ≤ k) ∧ Below w.heap.size w w' := by
  have hr' := hr.take_ k hk
  have hf' := hf.take
  rw [← refL_take, ← refB_take]
  rcases (by omega : tell = 0 ∨ tell = 1 ∨ tell = 2 ∨ tell = 3) with rfl | rfl | rfl | rfl
  · exact lines_ref0 (l.take k) A k c B be af en w hr' hB hf' (by omega) (by omega) (by omega)
  · exact lines_ref1 (l.take k) A k c B be af en w hr' hB hf' (by omega) (by omega) (by omega)
  · exact lines_ref2 (l.take k) A k c B be af en w hr' hB hf' (by omega) (by omega) (by omega)
  · have := lines_ref3 (l.take k) A k c B be af en w hr' hB hf' (by omega) (by omega) (by omega)
    have e : toldB (l.take k) be af = tI (l.take k) be af k := by
      funext j; unfold tI; rw [List.take_take, Nat.min_self]
    rw [e] at this
    exact this
end Go.Proofs.YtbgmdjceecbbhaaDoor
