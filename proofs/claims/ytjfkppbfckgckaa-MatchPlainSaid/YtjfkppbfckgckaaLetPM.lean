/-
  Patterns of letters alone: plain laws; no condition beyond those that each theorem states.
-/
import Derived.Test.YtjfkppbfckgckaaG19
import Derived.Test.YtjfkppbfckgckaaG14
set_option linter.unusedVariables false
set_option linter.unusedSimpArgs false
namespace Go.Proofs.Ytjfkppbfckgckaa
set_option maxRecDepth 20000
open Go.RowKit Go.Rb
attribute [local irreducible] Go.wpQuiet

def chB (b : Bool) : UInt8 := if b then 97 else 98
def chI (b : Bool) : Int := if b then 97 else 98
def wB (l : List Bool) : List UInt8 := l.map chB
def mkS (l : List UInt8) : ByteArray := ⟨l.toArray⟩
theorem mkS_list (l : List UInt8) : (mkS l).data.toList = l := rfl
theorem mkS_size (l : List UInt8) : (mkS l).size = l.length := by rw [← dlen, mkS_list]
theorem wB_len (l : List Bool) : (wB l).length = l.length := List.length_map ..
theorem getP_ch (b : Bool) (l : List UInt8) : getP (chB b :: l) = (chI b, 1) := by cases b <;> rfl
theorem putL_ch (b : Bool) : putL (chI b) = [chB b] := by cases b <;> decide
theorem chI_inj {a b : Bool} (h : chI a = chI b) : a = b := by cases a <;> cases b <;> first | rfl | exact absurd h (by decide)
theorem chB_inj {a b : Bool} (h : chB a = chB b) : a = b := by cases a <;> cases b <;> first | rfl | exact absurd h (by decide)
theorem ptsF_ch : ∀ (f : Nat) (l : List Bool), l.length ≤ f → ptsF f (wB l) = some (l.map chI)
  | 0, l, h => by
    obtain rfl := List.eq_nil_of_length_eq_zero (Nat.le_zero.1 h)
    rfl
  | f + 1, [], h => rfl
  | f + 1, b :: l, h => by
    have ih := ptsF_ch f l (by simpa using h)
    have hw : wB (b :: l) = chB b :: wB l := rfl
    rw [ptsF, hw, refP_eq, getP_ch]
    simp only [putL_ch]
    have h1 : ((1 : Int).toNat) = 1 := rfl
    rw [h1, List.take_succ_cons, List.take_zero, List.drop_succ_cons, List.drop_zero, ih]
    simp
theorem pts_ch (l : List Bool) : pts (mkS (wB l)).data.toList = some (l.map chI) := by
  rw [mkS_list]
  unfold pts
  exact ptsF_ch _ _ (by rw [wB_len]; exact Nat.le_refl _)
theorem decs_ch : ∀ (f : Nat) (l : List Bool), l.length ≤ f → decs f (wB l) = l.map fun b => (chI b, 1)
  | 0, l, h => by
    obtain rfl := List.eq_nil_of_length_eq_zero (Nat.le_zero.1 h)
    rfl
  | f + 1, [], h => rfl
  | f + 1, b :: l, h => by
    have ih := decs_ch f l (by simpa using h)
    have hw : wB (b :: l) = chB b :: wB l := rfl
    have hd : dn (chB b :: wB l) = 1 := by unfold dn; rw [getP_ch]; rfl
    rw [decs, hw, if_neg (by simp), hd, getP_ch, List.drop_succ_cons, List.drop_zero, ih]
    rfl
theorem decT_ch (l : List Bool) : decT (mkS (wB l)) = l.map fun b => (chI b, 1) := by
  unfold decT
  rw [mkS_list]
  exact decs_ch _ _ (by rw [mkS_size, wB_len]; exact Nat.le_refl _)
theorem decT_ch_len (l : List Bool) : (decT (mkS (wB l))).length = l.length := by rw [decT_ch, List.length_map]
theorem rsL_ch (l : List Bool) : rsL (mkS (wB l)) = l.map chI := by
  unfold rsL
  rw [decT_ch, List.map_map]
  rfl
theorem at_ch : ∀ (l : List Bool) (k : Nat), k ≤ l.length → AtF (l.map fun b => (chI b, 1)) k = k
  | l, 0, h => rfl
  | [], k + 1, h => by simp at h
  | b :: l, k + 1, h => by
    rw [List.map_cons, AtF_cons, at_ch l k (by simpa using h)]
    simp only
    omega
/-! ### Its tokens and tree -/
def tkL (b : Bool) : Tk := ⟨0, 0, [(chI b, chI b)], 0, 0⟩
def ndL (b : Bool) : Nd := .mk 1 [(chI b, chI b)] 0 0 []
theorem tok1_ch (b : Bool) (x : List Int) : tok1 (chI b :: x) = (tkL b, 1) := by cases b <;> rfl
theorem lexF_ch : ∀ (l : List Bool) (f : Nat) (acc : List Tk), l.length ≤ f → lexF tok1 f (l.map chI) acc = some (acc ++ l.map tkL)
  | [], f, acc, h => by
    rw [List.map_nil, List.map_nil, List.append_nil]
    cases f <;> rfl
  | b :: l, 0, acc, h => by simp at h
  | b :: l, f + 1, acc, h => by
    rw [List.map_cons, lexF, tok1_ch]
    simp only
    rw [if_neg (by decide), List.drop_succ_cons, List.drop_zero, lexF_ch l f _ (by simpa using h)]
    simp
theorem treeL_ch (l : List Bool) : ∀ (k i f : Nat) (pieces : List Nd) (loose : Bool), l.length ≤ k + i → i ≤ l.length → k + 1 ≤ f → treeL f (l.map tkL) 0 i [] pieces loose = some (oneN 4 (pieces ++ (l.drop i).map ndL))
  | 0, i, f, pieces, loose, h1, h2, h3 => by
    obtain rfl : i = l.length := by omega
    obtain ⟨f, rfl⟩ : ∃ g, f = g + 1 := ⟨f - 1, by omega⟩
    have : (l.map tkL)[l.length]? = none := List.getElem?_eq_none_iff.2 (by rw [List.length_map]; exact Nat.le_refl _)
    rw [treeL, this, List.drop_length, List.map_nil, List.append_nil]
    rfl
  | k + 1, i, f, pieces, loose, h1, h2, h3 => by
    obtain ⟨f, rfl⟩ : ∃ g, f = g + 1 := ⟨f - 1, by omega⟩
    by_cases hi : i = l.length
    · subst hi
      have : (l.map tkL)[l.length]? = none := List.getElem?_eq_none_iff.2 (by rw [List.length_map]; exact Nat.le_refl _)
      rw [treeL, this, List.drop_length, List.map_nil, List.append_nil]
      rfl
    · have hil : i < l.length := by omega
      have hg : (l.map tkL)[i]? = some (tkL l[i]) := by rw [List.getElem?_map, List.getElem?_eq_getElem hil]; rfl
      rw [treeL, hg]
      simp only
      rw [if_neg (by simp [tkL]), if_neg (by simp [tkL]), if_pos (show (tkL l[i]).kind = 0 from rfl), treeL_ch l k (i + 1) f _ _ (by omega) (by omega) (by omega)]
      have hd : l.drop i = l[i] :: l.drop (i + 1) := List.drop_eq_getElem_cons hil
      rw [hd, List.map_cons, List.append_assoc]
      rfl
def ndW (l : List Bool) : Nd := oneN 4 (l.map ndL)
theorem ndL_ok (b : Bool) : OkN (ndL b) := .mk _ _ _ _ _ (by decide) (fun h => absurd h (by decide)) (fun h => absurd h (by decide)) (by simp) (by simp) (fun k hk => by simp at hk)
theorem ndW_ok {l : List Bool} (h : l.length ≤ 20) : OkN (ndW l) := oneN_ok (.inl rfl) (fun n hn => by
  obtain ⟨b, -, rfl⟩ := List.mem_map.1 hn
  exact ndL_ok b) (by rw [List.length_map]; omega)
/-! ### Its program -/
def pgF : List Bool → Nat → List Ins
  | [], _ => []
  | b :: l, i => ⟨1, [(chI b, chI b)], (i : Int) + 1, 0⟩ :: pgF l (i + 1)
theorem pgF_len : ∀ (l : List Bool) (i : Nat), (pgF l i).length = l.length
  | [], i => rfl
  | b :: l, i => by rw [pgF, List.length_cons, pgF_len l, List.length_cons]
theorem pgF_get : ∀ (l : List Bool) (i j : Nat), (pgF l i)[j]? = (l[j]?).map fun b => ⟨1, [(chI b, chI b)], ((i + j : Nat) : Int) + 1, 0⟩
  | [], i, j => by simp [pgF]
  | b :: l, i, 0 => by simp [pgF]
  | b :: l, i, j + 1 => by
    rw [pgF, List.getElem?_cons_succ, pgF_get l, List.getElem?_cons_succ, show i + 1 + j = i + (j + 1) by omega]
theorem nodeP_ndL (b : Bool) (ps : List Ins) : nodeP (ndL b) ps = ps ++ [⟨1, [(chI b, chI b)], (ps.length : Int) + 1, 0⟩] := by
  unfold ndL
  rw [nodeP, if_pos rfl]
theorem nodesP_ch : ∀ (l : List Bool) (ps : List Ins), nodesP (l.map ndL) ps = ps ++ pgF l ps.length
  | [], ps => by rw [List.map_nil, nodesP, pgF, List.append_nil]
  | b :: l, ps => by
    rw [List.map_cons, nodesP, nodeP_ndL, nodesP_ch l, pgF, List.append_assoc, List.length_append, List.length_singleton]
    rfl
theorem nodeP_ndW {l : List Bool} (h : 0 < l.length) : nodeP (ndW l) [] = pgF l 0 := by
  unfold ndW
  match l, h with
  | [b], _ => exact nodeP_ndL b []
  | a :: b :: l, _ =>
    show nodeP (.mk 4 [] 0 0 ((a :: b :: l).map ndL)) [] = _
    rw [nodeP, if_neg (by decide), if_neg (by decide), if_neg (by decide), if_pos rfl, nodesP_ch]
    rfl
theorem cpC_ndL (b : Bool) : cpC (ndL b) = 1 := by cases b <;> decide
theorem cpK_ch : ∀ (l : List Bool) (acc : Int), 0 ≤ acc → cpK (l.map ndL) acc ≤ acc + (l.length : Int)
  | [], acc, h => by rw [List.map_nil, cpK]; simp
  | b :: l, acc, h => by
    rw [List.map_cons, cpK, cpC_ndL]
    have := cpK_ch l (min (acc + 1) 1099511627776) (by omega)
    simp only [List.length_cons]
    push_cast
    omega
theorem ndW_small {l : List Bool} (h : 0 < l.length) (h2 : l.length ≤ 20) : smallT (ndW l) := by
  have hok := ndW_ok h2
  have hu : ulen (ndW l) = l.length := by
    have := nodeP_len hok []
    rw [nodeP_ndW h, pgF_len] at this
    simpa using this.symm
  refine ⟨by rw [rlenC_eq hok, hu]; unfold CC; omega, ?_, by rw [lenC_eq hok, hu]; unfold CC; omega⟩
  unfold ndW
  match l, h, h2 with
  | [b], _, _ => exact (by rw [show oneN 4 ([b].map ndL) = ndL b from rfl, cpC_ndL]; decide : cpC (oneN 4 ([b].map ndL)) ≤ 100000)
  | a :: b :: l, _, h2 =>
    have h3 := cpK_ch (a :: b :: l) 1 (by decide)
    show cpC (.mk 4 [] 0 0 ((a :: b :: l).map ndL)) ≤ 100000
    rw [cpC, cpTop, if_neg (by decide)]
    omega
/-! ### Where it matches -/
def prL (l : List Bool) : List Ins := pgF l 0 ++ [⟨0, [], 0, 0⟩]
theorem prL_len (l : List Bool) : (prL l).length = l.length + 1 := by rw [prL, List.length_append, pgF_len]; rfl
theorem prL_at {l : List Bool} {i : Nat} {b : Bool} (h : l[i]? = some b) : (prL l)[i]? = some ⟨1, [(chI b, chI b)], (i : Int) + 1, 0⟩ := by
  have hl := (List.getElem?_eq_some_iff.1 h).1
  rw [prL, List.getElem?_append_left (by rw [pgF_len]; exact hl), pgF_get, h, Nat.zero_add]
  rfl
theorem prL_end (l : List Bool) : (prL l)[l.length]? = some ⟨0, [], 0, 0⟩ := by
  rw [prL, List.getElem?_append_right (by rw [pgF_len]; exact Nat.le_refl _), pgF_len, Nat.sub_self]
  rfl
theorem prL_eps (l : List Bool) (m k i : Nat) : eps (prL l) m k i = [] := by
  unfold eps
  cases hp : (prL l)[i]? with
  | none => rfl
  | some t =>
    have : t.op = 1 ∨ t.op = 0 := by
      have hi := (List.getElem?_eq_some_iff.1 hp).1
      rw [prL_len] at hi
      rcases Nat.lt_or_eq_of_le (Nat.le_of_lt_succ hi) with h | rfl
      · rw [prL_at (List.getElem?_eq_getElem h)] at hp
        obtain rfl := Option.some.inj hp
        exact .inl rfl
      · rw [prL_end] at hp
        obtain rfl := Option.some.inj hp
        exact .inr rfl
    simp only
    rw [if_neg (by omega), if_neg (by omega), if_neg (by omega)]
theorem hasS_ch (b : Bool) (r : Int) : hasS [(chI b, chI b)] r = decide (r = chI b) := by
  have hb : chI b = 97 ∨ chI b = 98 := by cases b <;> simp [chI]
  by_cases h : r = chI b
  · subst h
    cases b <;> decide
  · rw [decide_eq_false h]
    simp only [hasS, List.any_cons, List.any_nil, Bool.or_false]
    by_cases h1 : chI b ≤ r
    · rw [decide_eq_false (show ¬ r ≤ chI b by omega)]
      simp
    · rw [decide_eq_false h1]
      simp
theorem prL_nxt {l : List Bool} {rs : List Int} {k i j : Nat} (h : j ∈ nxt (prL l) rs k i) : j = i + 1 ∧ ∃ b, l[i]? = some b ∧ rs[k]? = some (chI b) := by
  unfold nxt at h
  cases hp : (prL l)[i]? with
  | none => rw [hp] at h; simp at h
  | some t =>
    rw [hp] at h
    simp only at h
    have hi := (List.getElem?_eq_some_iff.1 hp).1
    rw [prL_len] at hi
    rcases Nat.lt_or_eq_of_le (Nat.le_of_lt_succ hi) with hl | rfl
    · have hg := List.getElem?_eq_getElem hl
      rw [prL_at hg] at hp
      obtain rfl := Option.some.inj hp
      rw [if_pos rfl] at h
      cases hr : rs[k]? with
      | none => rw [hr] at h; simp at h
      | some r =>
        rw [hr] at h
        simp only [hasS_ch] at h
        by_cases hrb : r = chI l[i]
        · rw [decide_eq_true hrb, if_pos rfl] at h
          refine ⟨?_, l[i], hg, by rw [hrb]⟩
          have : j = ((i : Int) + 1).toNat := by simpa using h
          omega
        · rw [decide_eq_false hrb] at h
          simp at h
    · rw [prL_end] at hp
      obtain rfl := Option.some.inj hp
      rw [if_neg (by decide)] at h
      simp at h
/-- Do the letters stand from a place on? -/
def Stands (l : List Bool) (rs : List Int) (k0 : Nat) : Prop := ∀ j b, l[j]? = some b → rs[k0 + j]? = some (chI b)
theorem reach_ch {l : List Bool} {rs : List Int} {k0 i k : Nat} (h : Reach (prL l) rs k0 i k) : k = k0 + i ∧ ∀ j b, j < i → l[j]? = some b → rs[k0 + j]? = some (chI b) := by
  refine reach_sub (M := fun k i => k = k0 + i ∧ ∀ j b, j < i → l[j]? = some b → rs[k0 + j]? = some (chI b)) ⟨by omega, fun j b hj => by omega⟩ (fun k i j _ hj => by rw [prL_eps] at hj; simp at hj) (fun k i j hM hj => ?_) h
  obtain ⟨rfl, b, hb, hr⟩ := prL_nxt hj
  obtain ⟨rfl, hM2⟩ := hM
  refine ⟨by omega, fun q c hq hc => ?_⟩
  rcases Nat.lt_or_eq_of_le (Nat.le_of_lt_succ hq) with h1 | rfl
  · exact hM2 q c h1 hc
  · rw [hb] at hc
    obtain rfl := Option.some.inj hc
    exact hr
theorem reach_to {l : List Bool} {rs : List Int} {k0 : Nat} (h : Stands l rs k0) : ∀ i, i ≤ l.length → Reach (prL l) rs k0 i (k0 + i)
  | 0, _ => .start
  | i + 1, hi => by
    have hg := List.getElem?_eq_getElem (show i < l.length by omega)
    refine .nxt i (i + 1) (k0 + i) (reach_to h i (by omega)) ?_
    unfold nxt
    rw [prL_at hg]
    simp only
    rw [if_pos trivial, h i _ hg]
    simp [hasS_ch]
theorem acc_ch {l : List Bool} {rs : List Int} {k0 k : Nat} : Acc (prL l) rs k0 k ↔ k = k0 + l.length ∧ Stands l rs k0 := by
  constructor
  · rintro ⟨i, t, hr, ht, h0⟩
    obtain ⟨rfl, hM⟩ := reach_ch hr
    have hi := (List.getElem?_eq_some_iff.1 ht).1
    rw [prL_len] at hi
    rcases Nat.lt_or_eq_of_le (Nat.le_of_lt_succ hi) with hl | rfl
    · rw [prL_at (List.getElem?_eq_getElem hl)] at ht
      obtain rfl := Option.some.inj ht
      exact absurd h0 (by show ¬ (1 : Int) = 0; decide)
    · exact ⟨rfl, fun j b hj => hM j b (List.getElem?_eq_some_iff.1 hj).1 hj⟩
  · rintro ⟨rfl, h⟩
    exact ⟨l.length, _, reach_to h _ (Nat.le_refl _), prL_end l, rfl⟩
/-- The letters at a place, by lists. -/
def isAt (l ts : List Bool) (k : Nat) : Bool := decide ((ts.drop k).take l.length = l)
theorem isAt_stands {l ts : List Bool} {k : Nat} : isAt l ts k = true ↔ Stands l (ts.map chI) k := by
  unfold isAt Stands
  rw [decide_eq_true_eq]
  constructor
  · intro h j b hj
    rw [← h, List.getElem?_take] at hj
    split at hj
    · rw [List.getElem?_drop] at hj
      rw [List.getElem?_map, hj]
      rfl
    · simp at hj
  · intro h
    refine List.ext_getElem? fun j => ?_
    rw [List.getElem?_take]
    by_cases hj : j < l.length
    · rw [if_pos hj, List.getElem?_drop]
      have hg := List.getElem?_eq_getElem hj
      have h1 := h j _ hg
      rw [List.getElem?_map] at h1
      cases hq : ts[k + j]? with
      | none => rw [hq] at h1; simp at h1
      | some b =>
        rw [hq] at h1
        rw [hg, chI_inj (Option.some.inj h1)]
    · rw [if_neg hj, List.getElem?_eq_none_iff.2 (by omega)]
def LW (l ts : List Bool) (k : Nat) : Option Nat := if isAt l ts k = true then some (k + l.length) else none
theorem lastW (l ts : List Bool) (k : Nat) : IsLast (prL l) (ts.map chI) k (LW l ts k) := by
  unfold LW
  by_cases h : isAt l ts k = true
  · rw [if_pos h]
    exact ⟨acc_ch.2 ⟨rfl, isAt_stands.1 h⟩, fun k' hk' ha => by have := (acc_ch.1 ha).1; omega⟩
  · rw [if_neg h]
    exact fun k' ha => h (isAt_stands.2 (acc_ch.1 ha).2)
theorem LW_some {l ts : List Bool} {k e : Nat} (h : LW l ts k = some e) (h0 : 0 < l.length) : e = k + l.length ∧ k + l.length ≤ ts.length := by
  unfold LW at h
  split at h
  · rename_i hs
    unfold isAt at hs
    have h1 := congrArg List.length (of_decide_eq_true hs)
    rw [List.length_take, List.length_drop] at h1
    obtain rfl := Option.some.inj h
    exact ⟨rfl, by omega⟩
  · simp at h
/-- What the law wants. -/
def wantP (l ts : List Bool) : Nat → Nat → List (Nat × Nat) → List (Nat × Nat)
  | 0, _, out => out
  | f + 1, g, out => if ts.length < g + l.length then out else if isAt l ts g = true then wantP l ts f (g + l.length) (out ++ [(g, g + l.length)]) else wantP l ts f (g + 1) out
theorem wantP_out {l ts : List Bool} {f g : Nat} {out : List (Nat × Nat)} (h : ts.length < g + l.length) : wantP l ts f g out = out := by
  cases f with
  | zero => rfl
  | succ f => rw [wantP, if_pos h]
theorem allP_want {l ts : List Bool} (h0 : 0 < l.length) : ∀ (k g f1 f2 : Nat) (last : Option Nat) (out : List (Nat × Nat)), ts.length + 1 ≤ k + g → ts.length + 2 ≤ f1 + g → ts.length + 1 ≤ f2 + g → allP (LW l ts) ts.length f1 g last out = wantP l ts f2 g out
  | k, g, f1, f2, last, out, hk, h1, h2 => by
    by_cases hg : ts.length < g
    · rw [wantP_out (by omega)]
      cases f1 with
      | zero => rfl
      | succ f1 => rw [allP, if_pos hg]
    · obtain ⟨k, rfl⟩ : ∃ x, k = x + 1 := ⟨k - 1, by omega⟩
      obtain ⟨f1, rfl⟩ : ∃ x, f1 = x + 1 := ⟨f1 - 1, by omega⟩
      obtain ⟨f2, rfl⟩ : ∃ x, f2 = x + 1 := ⟨f2 - 1, by omega⟩
      obtain ⟨q, hq⟩ : ∃ q, ts.length + 1 - g = q + 1 := ⟨ts.length - g, by omega⟩
      cases hl : LW l ts g with
      | some e =>
        obtain ⟨rfl, hle⟩ := LW_some hl h0
        have hs : isAt l ts g = true := by
          unfold LW at hl
          split at hl
          · assumption
          · simp at hl
        rw [allP, if_neg hg, hq, firstL, hl]
        simp only
        rw [if_neg (by omega), wantP, if_neg (by omega), if_pos hs]
        exact allP_want h0 k (g + l.length) f1 f2 _ _ (by omega) (by omega) (by omega)
      | none =>
        have hs : ¬ isAt l ts g = true := fun h => by unfold LW at hl; rw [if_pos h] at hl; simp at hl
        have hstep : allP (LW l ts) ts.length (f1 + 1) g last out = allP (LW l ts) ts.length (f1 + 1) (g + 1) last out := by
          rw [allP, allP, if_neg hg, hq, firstL, hl]
          simp only
          by_cases hg1 : ts.length < g + 1
          · rw [if_pos hg1]
            obtain rfl : q = 0 := by omega
            rfl
          · rw [if_neg hg1, show ts.length + 1 - (g + 1) = q by omega]
        rw [hstep, allP_want h0 k (g + 1) (f1 + 1) f2 last out (by omega) (by omega) (by omega), wantP]
        by_cases hgn : ts.length < g + l.length
        · rw [if_pos hgn, wantP_out (by omega)]
        · rw [if_neg hgn, if_neg hs]
theorem hpos_ch {ts : List Bool} {X : List (Nat × Nat)} (h : ∀ q ∈ X, q.1 ≤ ts.length ∧ q.2 ≤ ts.length) : hpos (mkS (wB ts)) X = X.map fun q => ((q.1 : Int), (q.2 : Int)) := by
  unfold hpos
  refine List.map_congr_left fun q hq => ?_
  rw [decT_ch, at_ch _ _ (h q hq).1, at_ch _ _ (h q hq).2]
theorem wantP_bd {l ts : List Bool} : ∀ (f g : Nat) (out : List (Nat × Nat)), (∀ q ∈ out, q.1 ≤ ts.length ∧ q.2 ≤ ts.length) → ∀ q ∈ wantP l ts f g out, q.1 ≤ ts.length ∧ q.2 ≤ ts.length
  | 0, g, out, h => h
  | f + 1, g, out, h => by
    rw [wantP]
    split
    · exact h
    · split
      · refine wantP_bd f _ _ fun q hq => ?_
        rcases List.mem_append.1 hq with hq | hq
        · exact h q hq
        · obtain rfl : q = _ := by simpa using hq
          simp only
          omega
      · exact wantP_bd f _ _ h
theorem wantP_len {l ts : List Bool} : ∀ (f g : Nat) (out : List (Nat × Nat)), (wantP l ts f g out).length ≤ out.length + f
  | 0, g, out => by rw [wantP]; omega
  | f + 1, g, out => by
    rw [wantP]
    split
    · omega
    · split
      · have := wantP_len (l := l) (ts := ts) f (g + l.length) (out ++ [(g, g + l.length)])
        simp only [List.length_append, List.length_singleton] at this
        omega
      · have := wantP_len (l := l) (ts := ts) f (g + 1) out
        omega
end Go.Proofs.Ytjfkppbfckgckaa
