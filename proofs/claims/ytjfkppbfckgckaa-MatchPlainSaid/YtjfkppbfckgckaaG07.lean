/-
  tokens, one behind the other: the relation, its function where it has one, and how a slice of tokens grows; the contract of reedbedref09.Parse, whatever token answers; how long a tree is, and the contract of prog.Length; the contract of slices.Clone; a rule for regions that draw their order and end in a chain that waits for all else, where one operation of the head changes a thing: the head's operations are walked once each, the tail in its order ('region_tailo'); a program under way: how it lies behind prog.maker, what its methods leave alone; the contract of prog's put: an instruction behind the others; the contracts of prog's split and jump; the program of a tree as a plain function; no condition beyond those that each theorem states.
-/
import Derived.Test.YtjfkppbfckgckaaG06
import Derived.Test.YtjfkppbfckgckaaG02
import Derived.Deep.Cut
import Derived.Test.YtjfkppbfckgckaaG04
import Derived.Lib.MinMax
import Derived.Lib.Strings
import Derived.Test.YtjfkppbfckgckaaG05
import Derived.Test.YtjfkppbfckgckaaG01
set_option linter.unusedVariables false
set_option linter.unusedSimpArgs false
namespace Go.Proofs.Ytjfkppbfckgckaa
set_option maxRecDepth 20000
open Go.RowKit Go.Rb
attribute [local irreducible] Go.wpQuiet

def okTk (t : Tk) : Prop := t.kind = 0 ∨ t.kind = 2 ∨ (t.kind = 1 ∧ (t.r = 124 ∨ t.r = 40 ∨ t.r = 41 ∨ t.r = 94 ∨ t.r = 36))
/-- What token answers, as a relation PT, at the code points of which OK holds. -/
structure Lexer (PT : List Int → Tk × Nat → Prop) (OK : List Int → Prop) : Prop where
  call : ∀ (x : List Int) (A : Option Addr) (n c B : Nat) (W : World), x ≠ [] → OK x → Rd W B 1 A n (x.map iV) → B ≤ W.heap.size → n ≤ c → n ≤ 1000 → Calls Try.prog 36 #[.slice A n c] W fun e w' => ∃ p, PT x p ∧ RetTk W p e w'
  bd : ∀ x p, x ≠ [] → PT x p → p.2 ≤ x.length ∧ (p.2 ≠ 0 → okTk p.1)
  drop : ∀ x k, OK x → OK (x.drop k)
/-- The tokens from some code points on to others. -/
inductive Lex (PT : List Int → Tk × Nat → Prop) (rs : List Int) : List Tk → List Int → Prop
  | nil : Lex PT rs [] rs
  | snoc (l : List Tk) (x : List Int) (t : Tk) (k : Nat) (h : Lex PT rs l x) (hx : x ≠ []) (hp : PT x (t, k)) (hk : k ≠ 0) : Lex PT rs (l ++ [t]) (x.drop k)
theorem Lex.bd {PT OK} (hL : Lexer PT OK) {rs : List Int} {l : List Tk} {x : List Int} (h : Lex PT rs l x) : l.length + x.length ≤ rs.length ∧ (∀ t ∈ l, okTk t) ∧ (OK rs → OK x) := by
  induction h with
  | nil => exact ⟨by simp, by simp, id⟩
  | snoc l x t k h hx hp hk ih =>
    obtain ⟨h1, h2, h3⟩ := ih
    obtain ⟨h4, h5⟩ := hL.bd x _ hx hp
    refine ⟨by simp only [List.length_append, List.length_cons, List.length_nil, List.length_drop]; simp only at h4; omega, fun u hu => ?_, fun h => hL.drop _ _ (h3 h)⟩
    rcases List.mem_append.1 hu with hu | hu
    · exact h2 u hu
    · obtain rfl : u = t := by simpa using hu
      exact h5 hk
/-- The tokens, where there is one answer. -/
def lexF (T : List Int → Tk × Nat) : Nat → List Int → List Tk → Option (List Tk)
  | _, [], acc => some acc
  | 0, _, _ => none
  | f + 1, a :: x, acc => if (T (a :: x)).2 = 0 then none else lexF T f ((a :: x).drop (T (a :: x)).2) (acc ++ [(T (a :: x)).1])
theorem Lex.fn {T : List Int → Tk × Nat} {PT : List Int → Tk × Nat → Prop} (hT : ∀ x p, PT x p → p = T x) {rs : List Int} {l : List Tk} {x : List Int} (h : Lex PT rs l x) : ∀ f, lexF T (f + l.length) rs [] = lexF T f x l := by
  induction h with
  | nil => intro f; rfl
  | snoc l x t k h hx hp hk ih =>
    intro f
    have e := hT _ _ hp
    cases x with
    | nil => exact absurd rfl hx
    | cons a x =>
      rw [List.length_append, show f + (l.length + [t].length) = f + 1 + l.length by simp; omega, ih (f + 1), lexF, ← e]
      rw [if_neg hk]
theorem tks_push {w w2 w3 : World} {v v' sv : Value} {l : List Tk} {t : Tk} {svs : List Value} (hl : svs.length = l.length) (hv : Own w 74 5 v l.length (tkRow l svs)) (hs : ∀ (i : Nat) (t : Tk), l[i]? = some t → ∃ sv, svs[i]? = some sv ∧ SetV w sv t.set)
    (hb : Below w.heap.size w w2) (hg : w2.grownBy w3 v.ownBlock) (hO : Own w3 74 5 v' (l.length + 1) (tkRow l svs ++ tkCells t sv)) (hx : SetV w2 sv t.set) : TksO w3 v' (l ++ [t]) := by
  have hv2 : Own w2 74 5 v l.length (tkRow l svs) := hv.below hb fun k hk => hv.lt hk
  have key : ∀ (u : Value) (s : List (Int × Int)), SetV w2 u s → SetV w3 u s := fun u s hu => Own.grown hu hg fun k hk e => own_ne_ hu hv2 (by decide) hk e
  refine ⟨svs ++ [sv], by simp [hl], ?_, fun i u hi => ?_⟩
  · rw [tkRow_snoc _ _ hl, List.length_append]
    exact hO
  · by_cases hin : i < l.length
    · rw [List.getElem?_append_left hin] at hi
      obtain ⟨s, h1, h2⟩ := hs i u hi
      exact ⟨s, by rw [List.getElem?_append_left (by omega)]; exact h1, key _ _ (h2.below hb)⟩
    · have hi2 := (List.getElem?_eq_some_iff.1 hi).1
      obtain rfl : i = l.length := by simp at hi2; omega
      rw [List.getElem?_append_right (Nat.le_refl _)] at hi
      obtain rfl : t = u := by simpa using hi
      exact ⟨sv, by rw [List.getElem?_append_right (by omega), hl]; simp, key _ _ hx⟩
/-- What Parse answers: a tree of the tokens, or none and why. -/
def RetParse (PT : List Int → Tk × Nat → Prop) (s : ByteArray) (w : World) (e : Ending) (w' : World) : Prop :=
  Below w.heap.size w w' ∧ ((∃ rs l nd v, pts s.data.toList = some rs ∧ Lex PT rs l [] ∧ treeL (l.length + 2) l 0 0 [] [] false = some nd ∧ e = .returned (.tuple #[v, .int .i64 0]) ∧ NdV w' (fun k => w.heap.size ≤ k) v nd) ∨
    ((200 < s.size ∧ e = .returned (.tuple #[zeroNd, .int .i64 16])) ∨ (e = .returned (.tuple #[zeroNd, .int .i64 15]) ∧
      (pts s.data.toList = none ∨ ∃ rs l x, pts s.data.toList = some rs ∧ Lex PT rs l x ∧ ((∃ t, x ≠ [] ∧ PT x (t, 0)) ∨ (x = [] ∧ treeL (l.length + 2) l 0 0 [] [] false = none))))))
/-- Where there is one answer of token, there's one of Parse. -/
theorem RetParse.fn {T : List Int → Tk × Nat} {PT : List Int → Tk × Nat → Prop} (hT : ∀ x p, PT x p → p = T x) {s : ByteArray} {w w' : World} {e : Ending} (h : RetParse PT s w e w') {rs : List Int} {l : List Tk} {nd : Nd} (hs : s.size ≤ 200) (hp : pts s.data.toList = some rs)
    (hl : ∀ f, rs.length ≤ f → lexF T f rs [] = some l) (ht : treeL (l.length + 2) l 0 0 [] [] false = some nd) (hbd : ∀ l x, Lex PT rs l x → l.length + x.length ≤ rs.length) : ∃ v, e = .returned (.tuple #[v, .int .i64 0]) ∧ Below w.heap.size w w' ∧ NdV w' (fun k => w.heap.size ≤ k) v nd := by
  have key : ∀ l' x, Lex PT rs l' x → lexF T (rs.length + 1) x l' = some l := fun l' x h => by rw [← h.fn hT, hl _ (by omega)]
  obtain ⟨hb, h | h | ⟨h1, h⟩⟩ := h
  · obtain ⟨rs', l', nd', v, h1, h2, h3, h4, h5⟩ := h
    obtain rfl := Option.some.inj (h1.symm.trans hp)
    have := key _ _ h2
    rw [lexF] at this
    obtain rfl := Option.some.inj this
    obtain rfl := Option.some.inj (h3.symm.trans ht)
    exact ⟨v, h4, hb, h5⟩
  · omega
  · rcases h with h | ⟨rs', l', x, h2, h3, h4⟩
    · rw [hp] at h; simp at h
    · obtain rfl := Option.some.inj (h2.symm.trans hp)
      have hk := key _ _ h3
      rcases h4 with ⟨t, hx, h4⟩ | ⟨rfl, h4⟩
      · have e := hT _ _ h4
        cases x with
        | nil => exact absurd rfl hx
        | cons a x =>
          rw [lexF, ← e] at hk
          simp at hk
      · rw [lexF] at hk
        obtain rfl := Option.some.inj hk
        rw [h4] at ht
        simp at ht
end Go.Proofs.Ytjfkppbfckgckaa
namespace Go.Proofs.Ytjfkppbfckgckaa
set_option maxRecDepth 20000
open Go.RowKit Go.Rb
attribute [local irreducible] Go.wpQuiet

theorem infoT : (Try.prog.info? 74).map (fun i => (i.zero, i.size, i.bytes)) = some (some zeroTok, 5, 56) := by kernel_rfl
theorem ptsF_len : ∀ (f : Nat) (l : List UInt8) (rs : List Int), ptsF f l = some rs → rs.length ≤ f
  | 0, l, rs, h => by simp [ptsF] at h; subst h; simp
  | f + 1, l, rs, h => by
    rw [ptsF] at h
    split at h
    · obtain rfl := Option.some.inj h; simp
    · split at h
      · cases hq : ptsF f (l.drop (refP l).2.toNat) with
        | none => rw [hq] at h; simp at h
        | some q =>
          rw [hq] at h
          obtain rfl := Option.some.inj h
          have := ptsF_len f _ q hq
          simp; omega
      · simp at h
theorem pts_len {s : ByteArray} {rs : List Int} (h : pts s.data.toList = some rs) : rs.length ≤ s.size := by
  have := ptsF_len _ _ _ h
  rwa [Array.length_toList] at this
theorem TksO.len_ {w : World} {v : Value} {l : List Tk} (h : TksO w v l) : ∃ A c, v = .slice A l.length c ∧ l.length ≤ c := by
  obtain ⟨svs, h1, h2, h3⟩ := h
  obtain ⟨A, c, e, hc, -⟩ := h2.len_
  exact ⟨A, c, e, hc⟩
theorem tks_done {w w2 w3 : World} {v v' : Value} {l : List Tk} {t : Tk} {svs : List Value} {As : Option Addr} {n cs : Nat} {c1 c2 : Obj} (hl : svs.length = l.length) (hv : Own w 74 5 v l.length (tkRow l svs)) (hs : ∀ (i : Nat) (t : Tk), l[i]? = some t → ∃ sv, svs[i]? = some sv ∧ SetV w sv t.set)
    (hb : Below w.heap.size w w2) (hg : ((w2.alloc c1).alloc c2).grownBy w3 v.ownBlock) (hO : Own w3 74 5 v' (l.length + 1) (tkRow l svs ++ [.int .i64 t.kind, .int .i64 t.r, .slice As n cs, .int .i64 t.mn, .int .i64 t.mx])) (hx : SetV w2 (.slice As n cs) t.set) : TksO w3 v' (l ++ [t]) :=
  tks_push hl hv hs ((hb.alloc hb.size _).alloc (by have := hb.size; simp; omega) _) hg hO ((hx.below (below_al (Below.refl _ _) _)).below (below_al (Below.refl _ _) _))
theorem par_done {w1 wr w2 w3 : World} {v : Value} {c1 c2 : Obj} (h4 : Below w1.heap.size w1 wr) (h2 : Below wr.heap.size wr w2) (hsz : w1.heap.size ≤ wr.heap.size) (hg : ((w2.alloc c1).alloc c2).grownBy w3 v.ownBlock) (hk : ∀ k, v.ownBlock = some k → w1.heap.size ≤ k) : Below w1.heap.size w1 w3 := by
  have h := h4.trans (h2.mono hsz)
  have hs := h2.size
  exact Below.grown ((h.alloc (by omega) _).alloc (by simp; omega) _) hg (by simp; omega) hk
theorem par_far {v : Value} {g H B o n c : Nat} (hk : ∀ k, v.ownBlock = some k → B ≤ k) (h : v.ownBlock = some g ∨ g = H) (hH : B ≤ H) : ∀ k, (Value.slice (some ⟨g, o, none⟩) n c).ownBlock = some k → B ≤ k := by
  intro k e
  have e2 : g = k := by simpa [Value.ownBlock] using e
  subst e2
  rcases h with h | h
  · exact hk _ h
  · omega
set_option maxRecDepth 20000 in
set_option maxHeartbeats 4000000 in
theorem parse_any {PT : List Int → Tk × Nat → Prop} {OK : List Int → Prop} (hL : Lexer PT OK) (s : ByteArray) (hOK : ∀ rs, pts s.data.toList = some rs → OK rs) (w : World) : Calls Try.prog 22 #[.string s] w (RetParse PT s w) := by
  obtain ⟨i0, hi0, hz0, hz1, hz2⟩ := info_parts infoT
  by_cases hs : 200 < s.size
  · go_enter Try.func22, Try.ntmps22
    go_wp2_with fail
    go_returns
    exact ⟨below_al (Below.refl _ _) _, .inr (.inl ⟨hs, rfl⟩)⟩
  have HLX := Lib.hid hL
  clear hL
  go_enter Try.func22, Try.ntmps22
  go_wp2_with fail
  refine (points_any s (by omega) _).mono ?_
  rintro e1 w1 ⟨hb1, hm⟩
  have hbk0 : Blk w1 w.heap.size 52 #[.int .i64 0, .slice none 0 0, .int .i64 0, .int .i64 0, .slice none 0 0] := (Blk.new w 52 #[.int .i64 0, .slice none 0 0, .int .i64 0, .int .i64 0, .slice none 0 0]).below hb1 (by simp)
  have hbe0 : Below w.heap.size w w1 := (below_al (Below.refl w.heap.size w) _).trans (hb1.mono (by simp))
  have hwl1 : w.heap.size < w1.heap.size := hbk0.lt
  have HBK0 := Lib.hid hbk0
  have HBE0 := Lib.hid hbe0
  clear hb1 hbk0 hbe0
  cases hp : pts s.data.toList with
  | none =>
    rw [hp] at hm
    obtain rfl := hm
    have HP := Lib.hid hp
    clear hp hOK
    go_wp2_with fail
    go_loopw [4, 6] (fun v4 v6 wr => v4 = .slice none 0 0 ∧ v6 = .slice none 0 0 ∧ wr = w1) (fun _ _ _ => 0)
    case atStart => exact ⟨rfl, rfl, rfl⟩
    case round =>
    obtain ⟨rfl, rfl, hw⟩ := hrel
    subst hw
    go_upto_region 12 with fail
    have hbl2 : Below wr.heap.size wr (wr.alloc (.cells #[.int .i64 0, .slice none 0 0, .int .i64 0, .int .i64 0, .slice none 0 0] 52)) := below_al (Below.refl _ _) _
    generalize wr.alloc (.cells #[.int .i64 0, .slice none 0 0, .int .i64 0, .int .i64 0, .slice none 0 0] 52) = w2 at hbl2 ⊢
    have HBL2 := Lib.hid hbl2
    clear hbl2
    have HBE2 := Lib.hid (HBE0.out.trans (HBL2.out.mono (Nat.le_of_lt hwl1)))
    have hbk := HBK0.out.below HBL2.out hwl1
    have HBK := Lib.hid hbk
    have hlw := hbk.lt
    have y0 := hbk.cell 0
    have y1 := hbk.cell 1
    have y2 := hbk.cell 2
    have y3 := hbk.cell 3
    have y4 := hbk.cell 4
    have z0 := hbk.frozen 0
    have z1 := hbk.frozen 1
    have z2 := hbk.frozen 2
    have z3 := hbk.frozen 3
    have z4 := hbk.frozen 4
    simp only [List.getElem?_toArray, List.getElem?_cons_succ, List.getElem?_cons_zero] at y0 y1 y2 y3 y4
    clear hbk
    go_wp2_with fail
    have hb5 := (((((HBK.out.set_ 0 (.int .i64 0)).set_ 1 (.slice none 0 0)).set_ 2 (.int .i64 0)).set_ 3 (.int .i64 0)).set_ 4 (.slice none 0 0))
    have hB5 := (((((HBE2.out.setCell (p := ⟨w.heap.size, 0, none⟩) (Nat.le_refl _) (.int .i64 0)).setCell (p := ⟨w.heap.size, 1, none⟩) (Nat.le_refl _) (.slice none 0 0)).setCell (p := ⟨w.heap.size, 2, none⟩) (Nat.le_refl _) (.int .i64 0)).setCell (p := ⟨w.heap.size, 3, none⟩) (Nat.le_refl _) (.int .i64 0)).setCell (p := ⟨w.heap.size, 4, none⟩) (Nat.le_refl _) (.slice none 0 0))
    generalize (((((w2.setCell ⟨w.heap.size, 0, none⟩ (.int .i64 0)).setCell ⟨w.heap.size, 1, none⟩ (.slice none 0 0)).setCell ⟨w.heap.size, 2, none⟩ (.int .i64 0)).setCell ⟨w.heap.size, 3, none⟩ (.int .i64 0)).setCell ⟨w.heap.size, 4, none⟩ (.slice none 0 0)) = W5 at hb5 hB5 ⊢
    have x0 := hb5.cell 0
    have x1 := hb5.cell 1
    have x2 := hb5.cell 2
    have x3 := hb5.cell 3
    have x4 := hb5.cell 4
    simp at x0 x1 x2 x3 x4
    have HB5 := Lib.hid hB5
    clear hb5 hB5
    clear y0 z0 y1 z1 y2 z2 y3 z3 y4 z4
    try simp only [Exit.inBlock, Exit.then]
    refine bodyPost_ret (by simp [results, Try.results22, go_sem, x0, x1, x2, x3, x4]; try rfl) rfl ?_
    refine ⟨HB5.out, .inr (.inr ⟨rfl, .inl HP.out⟩)⟩
  | some rs =>
    rw [hp] at hm
    obtain ⟨v, rfl, hown, -⟩ := hm
    have hln := pts_len hp
    have HP := Lib.hid hp
    have HOK := Lib.hid (hOK rs hp)
    obtain ⟨A0, c0, rfl, hc0, -⟩ := hown.len_
    have hrd := hown.rd
    have HRD := Lib.hid hrd
    clear hp hOK hown hrd
    go_wp2_with fail
    go_loopw [4, 6] (fun v4 v6 wr => ∃ (x : List Int) (l : List Tk) (A4 : Option Addr) (n4 c4 : Nat), v4 = .slice A4 n4 c4 ∧ n4 ≤ c4 ∧ l.length + n4 ≤ 200 ∧ Hid (x.length = n4) ∧ Hid (Rd w1 w1.heap.size 1 A4 n4 (x.map iV)) ∧ Hid (Below w1.heap.size w1 wr) ∧ Hid (TksO wr v6 l) ∧ Hid (∀ k, v6.ownBlock = some k → w1.heap.size ≤ k) ∧ Hid (Lex PT rs l x)) (fun v4 _ _ => match v4 with | .slice _ n _ => n | _ => 0)
    case atStart => exact ⟨rs, [], A0, rs.length, c0, rfl, hc0, by simp; omega, rfl, HRD.out, Below.refl _ _, TksO.nil_ _, by simp [Hid, Value.ownBlock], .nil⟩
    case round =>
    obtain ⟨x, l, A4, n4, c4, rfl, hc4, hll, HXL, HR4, HB4, HTO, HTB, HLE⟩ := hrel
    have hsz4 := HB4.out.size
    have HBW := Lib.hid (HBE0.out.trans (HB4.out.mono (Nat.le_of_lt hwl1)))
    have HBKr := Lib.hid (HBK0.out.below HB4.out hwl1)
    cases x with
    | nil =>
      obtain rfl : n4 = 0 := by have := HXL.out; simpa using this.symm
      obtain ⟨A6, c6, rfl, hc6⟩ := HTO.out.len_
      have hkinds : ∀ t ∈ l, okTk t := (HLE.out.bd HLX.out).2.1
      have HTR : Hid (∀ W, Below wr.heap.size wr W → Calls Try.prog 37 #[.slice A6 l.length c6, .int .i64 0] W (RetTree W (treeL (l.length + 2) l 0 0 [] [] false))) := fun W hW => by
        have := tree_any 11 0 rfl l A6 l.length c6 (l.length + 2) W (Nat.le_refl _) (HTO.out.rd.under hW) rfl hc6 (by omega) hkinds
        rw [if_neg (by omega)] at this
        exact this
      obtain ⟨R2, hR2⟩ : ∃ R2, treeL (l.length + 2) l 0 0 [] [] false = R2 := ⟨_, rfl⟩
      rw [hR2] at HTR
      have HR2 := Lib.hid hR2
      clear hR2 hkinds
      go_upto_region 12 with fail
      have hbl2 : Below wr.heap.size wr (wr.alloc (.cells #[.int .i64 0, .slice none 0 0, .int .i64 0, .int .i64 0, .slice none 0 0] 52)) := below_al (Below.refl _ _) _
      have hbt2 := Blk.new wr 52 #[.int .i64 0, .slice none 0 0, .int .i64 0, .int .i64 0, .slice none 0 0]
      generalize wr.alloc (.cells #[.int .i64 0, .slice none 0 0, .int .i64 0, .int .i64 0, .slice none 0 0] 52) = w2 at hbl2 hbt2 ⊢
      have HBL2 := Lib.hid hbl2
      have HBT2 := Lib.hid hbt2
      have hs2 := hbl2.size
      have hs2' := hbt2.lt
      clear hbl2 hbt2
      go_wp2_with fail
      refine (HTR.out w2 HBL2.out).mono ?_
      rintro e3 w3 ⟨hb3, hm⟩
      have hs3 := hb3.size
      have HB3 := Lib.hid (below_trans HBL2.out hb3)
      have HBT3 := Lib.hid (HBT2.out.below hb3 hs2')
      clear hb3 HTR
      cases R2 with
      | none =>
        obtain rfl := hm
        unfold zeroNd ndV
        have HR := HR2
        have hbka := HBT3.out
        have HBKa := Lib.hid hbka
        have hlwa := hbka.lt
        have ya0 := hbka.cell 0
        have ya1 := hbka.cell 1
        have ya2 := hbka.cell 2
        have ya3 := hbka.cell 3
        have ya4 := hbka.cell 4
        have za0 := hbka.frozen 0
        have za1 := hbka.frozen 1
        have za2 := hbka.frozen 2
        have za3 := hbka.frozen 3
        have za4 := hbka.frozen 4
        simp only [List.getElem?_toArray, List.getElem?_cons_succ, List.getElem?_cons_zero] at ya0 ya1 ya2 ya3 ya4
        clear hbka
        go_upto_region 14 with fail
        have hb5 := (((((HBKa.out.set_ 0 (.int .i64 0)).set_ 1 (.slice none 0 0)).set_ 2 (.int .i64 0)).set_ 3 (.int .i64 0)).set_ 4 (.slice none 0 0))
        have hB5 := (((((HB3.out.setCell (p := ⟨wr.heap.size, 0, none⟩) (Nat.le_refl _) (.int .i64 0)).setCell (p := ⟨wr.heap.size, 1, none⟩) (Nat.le_refl _) (.slice none 0 0)).setCell (p := ⟨wr.heap.size, 2, none⟩) (Nat.le_refl _) (.int .i64 0)).setCell (p := ⟨wr.heap.size, 3, none⟩) (Nat.le_refl _) (.int .i64 0)).setCell (p := ⟨wr.heap.size, 4, none⟩) (Nat.le_refl _) (.slice none 0 0))
        generalize (((((w3.setCell ⟨wr.heap.size, 0, none⟩ (.int .i64 0)).setCell ⟨wr.heap.size, 1, none⟩ (.slice none 0 0)).setCell ⟨wr.heap.size, 2, none⟩ (.int .i64 0)).setCell ⟨wr.heap.size, 3, none⟩ (.int .i64 0)).setCell ⟨wr.heap.size, 4, none⟩ (.slice none 0 0)) = w4 at hb5 hB5 ⊢
        have HB4x := Lib.hid hB5
        have HBE4 := Lib.hid (HBW.out.trans (hB5.mono (Nat.le_of_lt HBKr.out.lt)))
        have hs4 := hB5.size
        clear hb5 hB5
        clear ya0 za0 ya1 za1 ya2 za2 ya3 za3 ya4 za4
        have hbk := HBKr.out.below HB4x.out HBKr.out.lt
        have HBK := Lib.hid hbk
        have hlw := hbk.lt
        have y0 := hbk.cell 0
        have y1 := hbk.cell 1
        have y2 := hbk.cell 2
        have y3 := hbk.cell 3
        have y4 := hbk.cell 4
        have z0 := hbk.frozen 0
        have z1 := hbk.frozen 1
        have z2 := hbk.frozen 2
        have z3 := hbk.frozen 3
        have z4 := hbk.frozen 4
        simp only [List.getElem?_toArray, List.getElem?_cons_succ, List.getElem?_cons_zero] at y0 y1 y2 y3 y4
        clear hbk
        go_wp2_with fail
        have hb5 := (((((HBK.out.set_ 0 (.int .i64 0)).set_ 1 (.slice none 0 0)).set_ 2 (.int .i64 0)).set_ 3 (.int .i64 0)).set_ 4 (.slice none 0 0))
        have hB5 := (((((HBE4.out.setCell (p := ⟨w.heap.size, 0, none⟩) (Nat.le_refl _) (.int .i64 0)).setCell (p := ⟨w.heap.size, 1, none⟩) (Nat.le_refl _) (.slice none 0 0)).setCell (p := ⟨w.heap.size, 2, none⟩) (Nat.le_refl _) (.int .i64 0)).setCell (p := ⟨w.heap.size, 3, none⟩) (Nat.le_refl _) (.int .i64 0)).setCell (p := ⟨w.heap.size, 4, none⟩) (Nat.le_refl _) (.slice none 0 0))
        generalize (((((w4.setCell ⟨w.heap.size, 0, none⟩ (.int .i64 0)).setCell ⟨w.heap.size, 1, none⟩ (.slice none 0 0)).setCell ⟨w.heap.size, 2, none⟩ (.int .i64 0)).setCell ⟨w.heap.size, 3, none⟩ (.int .i64 0)).setCell ⟨w.heap.size, 4, none⟩ (.slice none 0 0)) = W5 at hb5 hB5 ⊢
        have x0 := hb5.cell 0
        have x1 := hb5.cell 1
        have x2 := hb5.cell 2
        have x3 := hb5.cell 3
        have x4 := hb5.cell 4
        simp at x0 x1 x2 x3 x4
        have HB5 := Lib.hid hB5
        clear hb5 hB5
        clear y0 z0 y1 z1 y2 z2 y3 z3 y4 z4
        try simp only [Exit.inBlock, Exit.then]
        refine bodyPost_ret (by simp [results, Try.results22, go_sem, x0, x1, x2, x3, x4]; try rfl) rfl ?_
        refine ⟨HB5.out, .inr (.inr ⟨rfl, .inr ⟨rs, l, [], HP.out, HLE.out, .inr ⟨rfl, HR.out⟩⟩⟩)⟩
      | some nd =>
        obtain ⟨v, rfl, hv⟩ := hm
        obtain ⟨x0, A1, n1, m1, x2, x3, A5, n5, m5, rfl⟩ := hv.parts
        have HV := Lib.hid hv
        clear hv
        unfold ndV
        have hbka := HBT3.out
        have HBKa := Lib.hid hbka
        have hlwa := hbka.lt
        have ya0 := hbka.cell 0
        have ya1 := hbka.cell 1
        have ya2 := hbka.cell 2
        have ya3 := hbka.cell 3
        have ya4 := hbka.cell 4
        have za0 := hbka.frozen 0
        have za1 := hbka.frozen 1
        have za2 := hbka.frozen 2
        have za3 := hbka.frozen 3
        have za4 := hbka.frozen 4
        simp only [List.getElem?_toArray, List.getElem?_cons_succ, List.getElem?_cons_zero] at ya0 ya1 ya2 ya3 ya4
        clear hbka
        go_upto_region 14 with fail
        have hS : ∀ k, w2.heap.size ≤ k → k ≠ wr.heap.size := fun k h => by omega
        have hb5 := (((((HBKa.out.set_ 0 (.int .i64 x0)).set_ 1 (.slice A1 n1 m1)).set_ 2 (.int .i64 x2)).set_ 3 (.int .i64 x3)).set_ 4 (.slice A5 n5 m5))
        have hB5 := (((((HB3.out.setCell (p := ⟨wr.heap.size, 0, none⟩) (Nat.le_refl _) (.int .i64 x0)).setCell (p := ⟨wr.heap.size, 1, none⟩) (Nat.le_refl _) (.slice A1 n1 m1)).setCell (p := ⟨wr.heap.size, 2, none⟩) (Nat.le_refl _) (.int .i64 x2)).setCell (p := ⟨wr.heap.size, 3, none⟩) (Nat.le_refl _) (.int .i64 x3)).setCell (p := ⟨wr.heap.size, 4, none⟩) (Nat.le_refl _) (.slice A5 n5 m5))
        have hV5 := (((((HV.out.store HBKa.out hS 0 (.int .i64 x0)).store (HBKa.out.set_ 0 (.int .i64 x0)) hS 1 (.slice A1 n1 m1)).store ((HBKa.out.set_ 0 (.int .i64 x0)).set_ 1 (.slice A1 n1 m1)) hS 2 (.int .i64 x2)).store (((HBKa.out.set_ 0 (.int .i64 x0)).set_ 1 (.slice A1 n1 m1)).set_ 2 (.int .i64 x2)) hS 3 (.int .i64 x3)).store ((((HBKa.out.set_ 0 (.int .i64 x0)).set_ 1 (.slice A1 n1 m1)).set_ 2 (.int .i64 x2)).set_ 3 (.int .i64 x3)) hS 4 (.slice A5 n5 m5))
        generalize (((((w3.setCell ⟨wr.heap.size, 0, none⟩ (.int .i64 x0)).setCell ⟨wr.heap.size, 1, none⟩ (.slice A1 n1 m1)).setCell ⟨wr.heap.size, 2, none⟩ (.int .i64 x2)).setCell ⟨wr.heap.size, 3, none⟩ (.int .i64 x3)).setCell ⟨wr.heap.size, 4, none⟩ (.slice A5 n5 m5)) = w4 at hb5 hB5 hV5 ⊢
        have HB4x := Lib.hid hB5
        have HBE4 := Lib.hid (HBW.out.trans (hB5.mono (Nat.le_of_lt HBKr.out.lt)))
        have HV4 := Lib.hid hV5
        have hs4 := hB5.size
        have hlb := hb5.lt
        have b0 := hb5.cell 0
        have b1 := hb5.cell 1
        have b2 := hb5.cell 2
        have b3 := hb5.cell 3
        have b4 := hb5.cell 4
        simp at b0 b1 b2 b3 b4
        clear hb5 hB5 hV5 hS
        clear ya0 za0 ya1 za1 ya2 za2 ya3 za3 ya4 za4
        have hbk := HBKr.out.below HB4x.out HBKr.out.lt
        have HBK := Lib.hid hbk
        have hlw := hbk.lt
        have y0 := hbk.cell 0
        have y1 := hbk.cell 1
        have y2 := hbk.cell 2
        have y3 := hbk.cell 3
        have y4 := hbk.cell 4
        have z0 := hbk.frozen 0
        have z1 := hbk.frozen 1
        have z2 := hbk.frozen 2
        have z3 := hbk.frozen 3
        have z4 := hbk.frozen 4
        simp only [List.getElem?_toArray, List.getElem?_cons_succ, List.getElem?_cons_zero] at y0 y1 y2 y3 y4
        clear hbk
        have hltr := HBKr.out.lt
        have hS : ∀ k, w2.heap.size ≤ k → k ≠ w.heap.size := fun k h => by omega
        have HV6 := Lib.hid ((((((HV4.out.store HBK.out hS 0 (.int .i64 x0)).store (HBK.out.set_ 0 (.int .i64 x0)) hS 1 (.slice A1 n1 m1)).store ((HBK.out.set_ 0 (.int .i64 x0)).set_ 1 (.slice A1 n1 m1)) hS 2 (.int .i64 x2)).store (((HBK.out.set_ 0 (.int .i64 x0)).set_ 1 (.slice A1 n1 m1)).set_ 2 (.int .i64 x2)) hS 3 (.int .i64 x3)).store ((((HBK.out.set_ 0 (.int .i64 x0)).set_ 1 (.slice A1 n1 m1)).set_ 2 (.int .i64 x2)).set_ 3 (.int .i64 x3)) hS 4 (.slice A5 n5 m5)))
        clear hS
        go_wp2_with fail
        have hV6 := HV6.out
        have hb5 := (((((HBK.out.set_ 0 (.int .i64 x0)).set_ 1 (.slice A1 n1 m1)).set_ 2 (.int .i64 x2)).set_ 3 (.int .i64 x3)).set_ 4 (.slice A5 n5 m5))
        have hB5 := (((((HBE4.out.setCell (p := ⟨w.heap.size, 0, none⟩) (Nat.le_refl _) (.int .i64 x0)).setCell (p := ⟨w.heap.size, 1, none⟩) (Nat.le_refl _) (.slice A1 n1 m1)).setCell (p := ⟨w.heap.size, 2, none⟩) (Nat.le_refl _) (.int .i64 x2)).setCell (p := ⟨w.heap.size, 3, none⟩) (Nat.le_refl _) (.int .i64 x3)).setCell (p := ⟨w.heap.size, 4, none⟩) (Nat.le_refl _) (.slice A5 n5 m5))
        generalize (((((w4.setCell ⟨w.heap.size, 0, none⟩ (.int .i64 x0)).setCell ⟨w.heap.size, 1, none⟩ (.slice A1 n1 m1)).setCell ⟨w.heap.size, 2, none⟩ (.int .i64 x2)).setCell ⟨w.heap.size, 3, none⟩ (.int .i64 x3)).setCell ⟨w.heap.size, 4, none⟩ (.slice A5 n5 m5)) = W5 at hb5 hB5 hV6 ⊢
        have x0 := hb5.cell 0
        have x1 := hb5.cell 1
        have x2 := hb5.cell 2
        have x3 := hb5.cell 3
        have x4 := hb5.cell 4
        simp at x0 x1 x2 x3 x4
        have HB5 := Lib.hid hB5
        have HV6x := Lib.hid hV6
        clear hV6
        clear hb5 hB5
        clear y0 z0 y1 z1 y2 z2 y3 z3 y4 z4
        try simp only [Exit.inBlock, Exit.then]
        refine bodyPost_ret (by simp [results, Try.results22, go_sem, x0, x1, x2, x3, x4]; try rfl) rfl ?_
        refine ⟨HB5.out, .inl ⟨rs, l, nd, _, HP.out, HLE.out, HR2.out, rfl, ?_⟩⟩
        exact HV6x.out.mono fun k hk _ => by omega
    | cons a x =>
      have hn4 : 0 < n4 := by have := HXL.out; simp at this; omega
      have HC := Lib.hid (fun W (hW : Below wr.heap.size wr W) => HLX.out.call (a :: x) A4 n4 c4 w1.heap.size W (by simp) ((HLE.out.bd HLX.out).2.2 HOK.out) (HR4.out.below (HB4.out.trans (hW.mono hsz4))) (by have := hW.size; omega) hc4 (by omega))
      go_wp2_with fail
      refine (HC.out wr (Below.refl _ _)).mono ?_
      rintro e2 w2 ⟨⟨t, k⟩, hpt, v, rfl, hb2, sv, rfl, hset⟩
      obtain ⟨As, cs, rfl, -, -⟩ := Own.len_ hset
      have hs2 := hb2.size
      have HB2 := Lib.hid hb2
      have HPT := Lib.hid hpt
      have hbdk := (HLX.out.bd _ _ (by simp) hpt).1
      have HKN : Hid (k ≤ n4) := by show _ ≤ _; rw [← HXL.out]; exact hbdk
      have HSET := Lib.hid hset
      have HBK2 := Lib.hid (HBKr.out.below hb2 HBKr.out.lt)
      obtain ⟨kind, r, set, mn, mx⟩ := t
      clear hb2 hpt hbdk hset HC
      simp only
      by_cases hk : k = 0
      · subst hk
        go_upto_region 7 with fail
        have hbl3 : Below w2.heap.size w2 (w2.alloc (.cells #[.int .i64 kind, .int .i64 r, .slice As set.length cs, .int .i64 mn, .int .i64 mx] 74)) := below_al (Below.refl _ _) _
        generalize w2.alloc (.cells #[.int .i64 kind, .int .i64 r, .slice As set.length cs, .int .i64 mn, .int .i64 mx] 74) = w3 at hbl3 ⊢
        have HBL3 := Lib.hid hbl3
        have HBE3 := Lib.hid (HBW.out.trans ((below_trans HB2.out hbl3).mono (by omega)))
        clear hbl3
        have hbk := HBK2.out.below HBL3.out HBK2.out.lt
        have HBK := Lib.hid hbk
        have hlw := hbk.lt
        have y0 := hbk.cell 0
        have y1 := hbk.cell 1
        have y2 := hbk.cell 2
        have y3 := hbk.cell 3
        have y4 := hbk.cell 4
        have z0 := hbk.frozen 0
        have z1 := hbk.frozen 1
        have z2 := hbk.frozen 2
        have z3 := hbk.frozen 3
        have z4 := hbk.frozen 4
        simp only [List.getElem?_toArray, List.getElem?_cons_succ, List.getElem?_cons_zero] at y0 y1 y2 y3 y4
        clear hbk
        go_wp2_with fail
        have hb5 := (((((HBK.out.set_ 0 (.int .i64 0)).set_ 1 (.slice none 0 0)).set_ 2 (.int .i64 0)).set_ 3 (.int .i64 0)).set_ 4 (.slice none 0 0))
        have hB5 := (((((HBE3.out.setCell (p := ⟨w.heap.size, 0, none⟩) (Nat.le_refl _) (.int .i64 0)).setCell (p := ⟨w.heap.size, 1, none⟩) (Nat.le_refl _) (.slice none 0 0)).setCell (p := ⟨w.heap.size, 2, none⟩) (Nat.le_refl _) (.int .i64 0)).setCell (p := ⟨w.heap.size, 3, none⟩) (Nat.le_refl _) (.int .i64 0)).setCell (p := ⟨w.heap.size, 4, none⟩) (Nat.le_refl _) (.slice none 0 0))
        generalize (((((w3.setCell ⟨w.heap.size, 0, none⟩ (.int .i64 0)).setCell ⟨w.heap.size, 1, none⟩ (.slice none 0 0)).setCell ⟨w.heap.size, 2, none⟩ (.int .i64 0)).setCell ⟨w.heap.size, 3, none⟩ (.int .i64 0)).setCell ⟨w.heap.size, 4, none⟩ (.slice none 0 0)) = W5 at hb5 hB5 ⊢
        have x0 := hb5.cell 0
        have x1 := hb5.cell 1
        have x2 := hb5.cell 2
        have x3 := hb5.cell 3
        have x4 := hb5.cell 4
        simp at x0 x1 x2 x3 x4
        have HB5 := Lib.hid hB5
        clear hb5 hB5
        clear y0 z0 y1 z1 y2 z2 y3 z3 y4 z4
        try simp only [Exit.inBlock, Exit.then]
        refine bodyPost_ret (by simp [results, Try.results22, go_sem, x0, x1, x2, x3, x4]; try rfl) rfl ?_
        refine ⟨HB5.out, .inr (.inr ⟨rfl, .inr ⟨rs, l, a :: x, HP.out, HLE.out, .inl ⟨_, by simp, HPT.out⟩⟩⟩)⟩
      · have FK : ((k : Int) == 0) = false := by simp; omega
        have hk200 : k ≤ 200 := by have := HKN.out; omega
        obtain ⟨A', c', hsl, hrd', hc', -⟩ := rd_tail (P := Try.prog) 38 Try.underlying38 (fun W => by kernel_rfl) HR4.out hc4 k HKN.out
        have HRD' : Hid (Rd w1 w1.heap.size 1 A' (n4 - k) (((a :: x).drop k).map iV)) := by
          show Rd _ _ _ _ _ _
          rw [List.map_drop, ← Nat.mul_one k]
          rw [Nat.mul_one k] at *
          simpa using hrd'
        have HLE' : Hid (Lex PT rs (l ++ [⟨kind, r, set, mn, mx⟩]) ((a :: x).drop k)) := .snoc l (a :: x) _ k HLE.out (by simp) HPT.out hk
        obtain ⟨svs, hsv1, hsv2, hsv3⟩ := HTO.out
        obtain ⟨A6, c6, rfl, hc6, -⟩ := hsv2.len_
        have HSV1 := Lib.hid hsv1
        have HSV2 := Lib.hid hsv2
        have HSV3 := Lib.hid hsv3
        have HO2 := Lib.hid (hsv2.below HB2.out fun k hk => hsv2.lt hk)
        have HC' := Lib.hid hc'
        clear hsv1 hsv2 hsv3 hrd' hc' hc6
        go_wp2_with (at_builtin; go_loud (refine wpList_append_mine _ rfl (.tmp 33) (.tmp 35) _ rfl 74 i0 _ 5 56 Try.underlying72 hi0 hz0 hz1 hz2 rfl (by omega) (.slice A6 l.length c6) l.length (tkRow l svs) rfl (by exact ((HO2.out.alloc _).alloc _)) _ 1 1 [.int .i64 kind, .int .i64 r, .slice As set.length cs, .int .i64 mn, .int .i64 mx] rfl rfl (by exact news_pushs rfl (by simp)) (by simp [Value.oneCell']) (by omega) (by simp only [maxLen]; omega) (by omega) _ rfl ?_); intro g5 o5 c5 w5 hown5 hgrow5 hat5; have HT5 := Lib.hid (tks_done (t := ⟨kind, r, set, mn, mx⟩) HSV1.out HSV2.out HSV3.out HB2.out hgrow5 hown5 HSET.out); have HB5 := Lib.hid (par_done HB4.out HB2.out hsz4 hgrow5 HTB.out); have HK5 := Lib.hid (par_far (B := w1.heap.size) (o := o5) (n := l.length + 1) (c := c5) HTB.out hat5 (by simp; omega)); clear hown5 hgrow5 hat5)
        go_roundw
        case rel => exact ⟨(a :: x).drop k, l ++ [Tk.mk kind r set mn mx], A', n4 - k, c', rfl, HC'.out, by have := HKN.out; simp; omega, by show _ = _; rw [List.length_drop, HXL.out], HRD'.out, HB5.out, HT5.out, HK5.out, HLE'.out⟩
        case measure => have := HKN.out; show n4 - k < n4; omega
end Go.Proofs.Ytjfkppbfckgckaa
namespace Go.Proofs.Ytjfkppbfckgckaa
set_option maxRecDepth 20000
open Go.RowKit Go.Rb
attribute [local irreducible] Go.wpQuiet

theorem flat_at {vs : List Value} (h5 : ∀ v ∈ vs, (cellsV v).length = 5) (i : Nat) (v : Value) (hv : vs[i]? = some v) (j : Nat) (hj : j < 5) : (vs.flatMap cellsV)[i * 5 + j]? = (cellsV v)[j]? := by
  induction vs generalizing i with
  | nil => simp at hv
  | cons a vs ih =>
    have ha := h5 a (by simp)
    cases i with
    | zero =>
      obtain rfl : a = v := by simpa using hv
      rw [List.flatMap_cons, Nat.zero_mul, Nat.zero_add, List.getElem?_append_left (by omega)]
    | succ i =>
      rw [List.flatMap_cons, List.getElem?_append_right (by omega), ha]
      have : (i + 1) * 5 + j - 5 = i * 5 + j := by omega
      rw [this]
      exact ih (fun v hv => h5 v (by simp [hv])) i (by simpa using hv)
/-- The trees that Parse makes (and others). -/
inductive OkN : Nd → Prop
  | mk (op mn mx : Int) (set : List (Int × Int)) (kids : List Nd) (h0 : 0 ≤ op ∧ op ≤ 6) (h6 : op = 6 → kids.length = 1 ∧ 0 ≤ mn ∧ mn ≤ 50 ∧ mx ≤ 50 ∧ (mx = -1 ∨ mn ≤ mx)) (h5 : op = 5 → 2 ≤ kids.length) (hl : kids.length ≤ 1000) (hs : set.length ≤ 1000) (hk : ∀ k ∈ kids, OkN k) : OkN (.mk op set mn mx kids)
def lenTop (op mn mx n all : Int) : Int :=
  if op = 0 then 0 else if op = 5 then min (all + 2 * (n - 1)) 1099511627776 else if op = 6 then min (if mx < 0 then (mn + 1) * all + 2 else mn * all + (mx - mn) * (all + 1)) 1099511627776 else if op = 4 then min all 1099511627776 else 1
mutual
def lenC : Nd → Int
  | .mk op _ mn mx kids => lenTop op mn mx kids.length (lenK kids 0)
def lenK : List Nd → Int → Int
  | [], acc => acc
  | k :: ks, acc => lenK ks (min (acc + lenC k) 1099511627776)
end
theorem lenK_bd (ks : List Nd) (hk : ∀ k ∈ ks, 0 ≤ lenC k ∧ lenC k ≤ 1099511627776) : ∀ acc : Int, 0 ≤ acc → acc ≤ 1099511627776 → 0 ≤ lenK ks acc ∧ lenK ks acc ≤ 1099511627776 := by
  induction ks with
  | nil => intro acc h1 h2; simp only [lenK]; omega
  | cons k ks ih =>
    intro acc h1 h2
    have := hk k (by simp)
    rw [lenK]
    exact ih (fun k hk' => hk k (by simp [hk'])) _ (by omega) (by omega)
theorem mulbd {a b : Int} {A B : Int} (h1 : 0 ≤ a) (h2 : a ≤ A) (h3 : 0 ≤ b) (h4 : b ≤ B) : 0 ≤ a * b ∧ a * b ≤ A * B :=
  ⟨Int.mul_nonneg h1 h3, Int.mul_le_mul h2 h4 h3 (by omega)⟩
theorem lenC_bd {n : Nd} (h : OkN n) : 0 ≤ lenC n ∧ lenC n ≤ 1099511627776 := by
  induction h with
  | mk op mn mx set kids h0 h6 h5 hl hs hk ih =>
    have hK := lenK_bd kids ih 0 (by omega) (by omega)
    rw [lenC, lenTop]
    by_cases e0 : op = 0
    · rw [if_pos e0]; omega
    rw [if_neg e0]
    by_cases e5 : op = 5
    · rw [if_pos e5]; have := h5 e5; omega
    rw [if_neg e5]
    by_cases e6 : op = 6
    · rw [if_pos e6]
      obtain ⟨_, b1, b2, b3, b4⟩ := h6 e6
      by_cases em : mx < 0
      · rw [if_pos em]
        have := mulbd (a := mn + 1) (b := lenK kids 0) (by omega) (show mn + 1 ≤ 51 by omega) hK.1 hK.2
        omega
      · rw [if_neg em]
        have e1 := mulbd (a := mn) (b := lenK kids 0) (by omega) b2 hK.1 hK.2
        have e2 := mulbd (a := mx - mn) (b := lenK kids 0 + 1) (A := 50) (B := 1099511627777) (by omega) (by omega) (by omega) (by omega)
        omega
    rw [if_neg e6]
    by_cases e4 : op = 4
    · rw [if_pos e4]; omega
    rw [if_neg e4]
    omega
theorem nd_cells {w : World} {S : Nat → Prop} {ns : List Nd} {vs : List Value} (hl : vs.length = ns.length) (hv : ∀ (i : Nat) (n : Nd), ns[i]? = some n → NdV w S (vs.getD i undef) n) : ∀ v ∈ vs, (cellsV v).length = 5 := by
  intro x hx
  obtain ⟨i, hi⟩ := List.mem_iff_getElem?.1 hx
  have hil := (List.getElem?_eq_some_iff.1 hi).1
  have h := hv i _ (List.getElem?_eq_getElem (by omega))
  rw [List.getD, hi] at h
  obtain ⟨a, A1, n1, m1, b, c, A4, n4, m4, e⟩ := h.parts
  simp only [Option.getD_some] at e
  subst e
  rfl
/-- The cells of the i-th kid. -/
theorem kid_cells {w W : World} {S : Nat → Prop} {ns : List Nd} {vs : List Value} {A : Option Addr} {c : Nat} (hl : vs.length = ns.length) (hO : Own w 52 5 (.slice A ns.length c) ns.length (vs.flatMap cellsV)) (hv : ∀ (i : Nat) (n : Nd), ns[i]? = some n → NdV w S (vs.getD i undef) n)
    (hb : Below w.heap.size w W) (i : Nat) (n : Nd) (hi : ns[i]? = some n) : ∃ b off x0 A1 n1 m1 x2 x3 A4 n4 m4, A = some ⟨b, off, none⟩ ∧ b < W.heap.size ∧ NdV W S (ndV x0 (.slice A1 n1 m1) x2 x3 (.slice A4 n4 m4)) n ∧
      W.cell? ⟨b, off + i * 5, none⟩ = some (.int .i64 x0) ∧ W.cell? ⟨b, off + i * 5 + 1, none⟩ = some (.slice A1 n1 m1) ∧ W.cell? ⟨b, off + i * 5 + 2, none⟩ = some (.int .i64 x2) ∧ W.cell? ⟨b, off + i * 5 + 3, none⟩ = some (.int .i64 x3) ∧ W.cell? ⟨b, off + i * 5 + 4, none⟩ = some (.slice A4 n4 m4) := by
  have hin := (List.getElem?_eq_some_iff.1 hi).1
  have h := hv i n hi
  obtain ⟨x0, A1, n1, m1, x2, x3, A4, n4, m4, e⟩ := h.parts
  rw [e] at h
  obtain ⟨b, off, hA, hbl, hc⟩ := hO.rd.2 (by omega)
  have hv5 := nd_cells hl hv
  have hvi : vs[i]? = some (ndV x0 (.slice A1 n1 m1) x2 x3 (.slice A4 n4 m4)) := by
    rw [List.getD, List.getElem?_eq_getElem (by omega)] at e
    rw [List.getElem?_eq_getElem (by omega)]
    simpa using e
  have key : ∀ j, j < 5 → W.cell? ⟨b, off + i * 5 + j, none⟩ = (cellsV (ndV x0 (.slice A1 n1 m1) x2 x3 (.slice A4 n4 m4)))[j]? := fun j hj => by
    rw [hb.cell (p := ⟨b, off + i * 5 + j, none⟩) hbl, Nat.add_assoc, hc (i * 5 + j) (by omega)]
    exact flat_at hv5 i _ hvi j hj
  exact ⟨b, off, x0, A1, n1, m1, x2, x3, A4, n4, m4, hA, Nat.lt_of_lt_of_le hbl hb.size, h.under hb, key 0 (by omega), key 1 (by omega), key 2 (by omega), key 3 (by omega), key 4 (by omega)⟩
theorem NdV.kids {w : World} {S : Nat → Prop} {v : Value} {op mn mx : Int} {set : List (Int × Int)} {kids : List Nd} (h : NdV w S v (.mk op set mn mx kids)) : ∃ A1 m1 A4 m4, v = ndV op (.slice A1 set.length m1) mn mx (.slice A4 kids.length m4) ∧ kids.length ≤ m4 ∧ SetV w (.slice A1 set.length m1) set ∧
    ∀ (W : World), Below w.heap.size w W → ∀ (i : Nat) (n : Nd), kids[i]? = some n → ∃ b off x0 A1 n1 m1 x2 x3 A5 n4 m4, A4 = some ⟨b, off, none⟩ ∧ b < W.heap.size ∧ NdV W S (ndV x0 (.slice A1 n1 m1) x2 x3 (.slice A5 n4 m4)) n ∧
      W.cell? ⟨b, off + i * 5, none⟩ = some (.int .i64 x0) ∧ W.cell? ⟨b, off + i * 5 + 1, none⟩ = some (.slice A1 n1 m1) ∧ W.cell? ⟨b, off + i * 5 + 2, none⟩ = some (.int .i64 x2) ∧ W.cell? ⟨b, off + i * 5 + 3, none⟩ = some (.int .i64 x3) ∧ W.cell? ⟨b, off + i * 5 + 4, none⟩ = some (.slice A5 n4 m4) := by
  cases h with
  | mk _ _ _ _ _ sv kv vs hs hl hk hkS hn =>
    obtain ⟨A1, m1, rfl, -, -⟩ := Own.len_ hs
    obtain ⟨A4, m4, rfl, hm4, -⟩ := hk.len_
    exact ⟨A1, m1, A4, m4, rfl, hm4, hs, fun W hW i n hi => kid_cells hl hk (fun i n hi => by obtain ⟨hil, rfl⟩ := List.getElem?_eq_some_iff.1 hi; exact hn i hil) hW i n hi⟩
theorem lenK_drop {kids : List Nd} {i : Nat} {k : Nd} {acc : Int} (hi : kids[i]? = some k) : lenK (kids.drop i) acc = lenK (kids.drop (i + 1)) (min (acc + lenC k) 1099511627776) := by
  obtain ⟨hil, rfl⟩ := List.getElem?_eq_some_iff.1 hi
  rw [List.drop_eq_getElem_cons hil, lenK]
set_option maxRecDepth 20000 in
set_option maxHeartbeats 2000000 in
theorem len_any {n : Nd} (hok : OkN n) : ∀ (w : World) (S : Nat → Prop) (v : Value), NdV w S v n → Calls Try.prog 39 #[v] w fun e w' => e = .returned (.int .i64 (lenC n)) ∧ Below w.heap.size w w' := by
  induction hok with
  | mk op mn mx set kids h0 h6 h5 hkl hsl hok ih =>
    intro w S v hv
    obtain ⟨A1, m1, A4, m4, rfl, hm4, hset, hkid⟩ := hv.kids
    have HKID := Lib.hid hkid
    have HIH := Lib.hid ih
    have HOK := Lib.hid hok
    have HH6 := Lib.hid h6
    have HH5 := Lib.hid h5
    obtain ⟨LK, hLK⟩ : ∃ LK, lenK kids 0 = LK := ⟨_, rfl⟩
    have HLK : Hid (lenK (kids.drop 0) 0 = LK) := hLK
    have HLB := Lib.hid (lenK_bd kids (fun k hk => lenC_bd (hok k hk)) 0 (by omega) (by omega))
    have HR : Hid (lenC (.mk op set mn mx kids) = lenTop op mn mx kids.length LK) := by show _ = _; rw [lenC, hLK]
    rw [hLK] at HLB
    obtain ⟨R, hR⟩ : ∃ R, lenC (.mk op set mn mx kids) = R := ⟨_, rfl⟩
    rw [hR] at HR ⊢
    clear hR hLK hkid ih hok h6 h5 hset
    obtain ⟨nk, hnk⟩ : ∃ nk, kids.length = nk := ⟨_, rfl⟩
    have HNK := Lib.hid hnk
    rw [hnk] at hm4 HR hkl HH5 HH6 ⊢
    clear hnk
    unfold ndV
    go_enter Try.func39, Try.ntmps39
    go_wp2_with fail
    go_loopw [3, 9] (fun av iv wr => ∃ (i : Nat) (acc : Int), av = .int .i64 acc ∧ iv = .int .i64 (i : Int) ∧ i ≤ nk ∧ 0 ≤ acc ∧ acc ≤ 1099511627776 ∧ Hid (Below w.heap.size w wr) ∧ Hid (Blk wr w.heap.size 52 #[.int .i64 op, .slice A1 set.length m1, .int .i64 mn, .int .i64 mx, .slice A4 nk m4]) ∧ Hid (lenK (kids.drop i) acc = LK)) (fun _ iv _ => nk - (intOf iv).toNat)
    case atStart => exact ⟨0, 0, rfl, rfl, by omega, by omega, by omega, below_al (Below.refl _ _) _, Blk.new _ _ _, HLK.out⟩
    case round =>
    obtain ⟨i, acc, rfl, rfl, hin, ha0, ha1, HB, HBK, HL⟩ := hrel
    have hlt := HBK.out.lt
    by_cases hi : i < nk
    · have hcl : i < kids.length := by rw [HNK.out]; exact hi
      obtain ⟨k, hk⟩ : ∃ k, kids[i]? = some k := ⟨_, List.getElem?_eq_getElem hcl⟩
      have hmem := List.mem_of_getElem? hk
      obtain ⟨b, off, x0, A5, n5, m5, x2, x3, A6, n6, m6, rfl, hb, hnv, c0, c1, c2, c3, c4⟩ := HKID.out wr HB.out i k hk
      have hbd := lenC_bd (HOK.out k hmem)
      have HL2 := Lib.hid ((lenK_drop (acc := acc) hk).symm.trans HL.out)
      have HC := Lib.hid (fun W (hW : Below wr.heap.size wr W) => HIH.out k hmem W S _ (hnv.under hW))
      obtain ⟨L, hL⟩ : ∃ L, lenC k = L := ⟨_, rfl⟩
      rw [hL] at hbd HL2 HC
      obtain ⟨hbd0, hbd1⟩ := hbd
      clear hL hk hmem hcl hnv HL HLK
      unfold ndV at HC
      go_wp2_with fail
      refine (HC.out _ (below_al (Below.refl _ _) _)).mono ?_
      rintro e1 w1 ⟨rfl, hb1⟩
      have HB1 := Lib.hid (HB.out.trans ((below_trans (below_al (Below.refl _ wr) (.cells #[.int .i64 x0, .slice A5 n5 m5, .int .i64 x2, .int .i64 x3, .slice A6 n6 m6] 52)) hb1).mono HB.out.size))
      have HBK1 := Lib.hid ((HBK.out.alloc (.cells #[.int .i64 x0, .slice A5 n5 m5, .int .i64 x2, .int .i64 x3, .slice A6 n6 m6] 52)).below hb1 (by simp; omega))
      clear hb1 HC
      go_wp2_with fail
      go_roundw
      case rel => exact ⟨i + 1, min (acc + L) 1099511627776, rfl, by go_num, by omega, by omega, by omega, HB1.out, HBK1.out, HL2.out⟩
      case measure => simp [intOf] <;> omega
    · obtain rfl : i = nk := by omega
      have hacc : acc = LK := by
        have := HL.out
        rw [List.drop_eq_nil_of_le (by rw [HNK.out]; omega), lenK] at this
        exact this
      subst hacc
      have y0 := HBK.out.cell 0
      have y2 := HBK.out.cell 2
      have y3 := HBK.out.cell 3
      have y4 := HBK.out.cell 4
      simp only [List.getElem?_toArray, List.getElem?_cons_succ, List.getElem?_cons_zero] at y0 y2 y3 y4
      clear HL HLB HLK
      by_cases e0 : op = 0
      · subst e0
        have HF : Hid (R = 0) := HR.out
        go_wp2_with fail
        go_ret
        exact ⟨by rw [HF.out]; rfl, HB.out⟩
      have F0 : (op == 0) = false := by simpa using e0
      by_cases e5 : op = 5
      · subst e5
        have h52 := HH5.out rfl
        have HF : Hid (R = min (acc + 2 * ((i : Int) - 1)) 1099511627776) := HR.out
        go_wp2_with fail
        go_ret
        exact ⟨by rw [HF.out]; rfl, HB.out⟩
      have F5 : (op == 5) = false := by simpa using e5
      by_cases e6 : op = 6
      · subst e6
        obtain ⟨_, b1, b2, b3, b4⟩ := HH6.out rfl
        by_cases em : mx < 0
        · have HF : Hid (R = min ((mn + 1) * acc + 2) 1099511627776) := by show _ = _; rw [HR.out, lenTop, if_neg (by decide), if_neg (by decide), if_pos rfl, if_pos em]
          obtain ⟨p1, p2⟩ := mulbd (a := mn + 1) (b := acc) (by omega) (show mn + 1 ≤ 51 by omega) ha0 ha1
          go_wp2_with fail
          go_ret
          exact ⟨by rw [HF.out]; rfl, HB.out⟩
        · have HF : Hid (R = min (mn * acc + (mx - mn) * (acc + 1)) 1099511627776) := by show _ = _; rw [HR.out, lenTop, if_neg (by decide), if_neg (by decide), if_pos rfl, if_neg em]
          obtain ⟨p1, p2⟩ := mulbd (a := mn) (b := acc) (by omega) b2 ha0 ha1
          obtain ⟨p3, p4⟩ := mulbd (a := mx - mn) (b := acc + 1) (A := 50) (B := 1099511627777) (by omega) (by omega) (by omega) (by omega)
          go_wp2_with fail
          go_ret
          exact ⟨by rw [HF.out]; rfl, HB.out⟩
      have F6 : (op == 6) = false := by simpa using e6
      by_cases e4 : op = 4
      · subst e4
        have HF : Hid (R = min acc 1099511627776) := HR.out
        go_wp2_with fail
        go_ret
        exact ⟨by rw [HF.out]; rfl, HB.out⟩
      have F4 : (op == 4) = false := by simpa using e4
      have HF : Hid (R = 1) := by show _ = _; rw [HR.out, lenTop, if_neg e0, if_neg e5, if_neg e6, if_neg e4]
      go_wp2_with fail
      go_ret
      exact ⟨by rw [HF.out]; rfl, HB.out⟩
end Go.Proofs.Ytjfkppbfckgckaa
namespace Go.Proofs.Ytjfkppbfckgckaa
set_option maxRecDepth 20000
open Go.RowKit Go.Rb
attribute [local irreducible] Go.wpQuiet

theorem infoH : (Try.prog.info? 98).map (fun i => (i.zero, i.size, i.bytes)) = some (some (.agg #[.int .i64 0, .int .i64 0]), 2, 16) := by kernel_rfl
theorem flat_one (l : List (Int × Int)) : ∀ u ∈ flat l, u.oneCell' = true := by
  intro u hu
  simp only [flat, List.mem_flatMap] at hu
  obtain ⟨x, -, hx⟩ := hu
  simp only [List.mem_cons, List.not_mem_nil, or_false] at hx
  rcases hx with rfl | rfl <;> rfl
set_option maxHeartbeats 1000000 in
theorem clone_any (A : Option Addr) (n c B : Nat) (hs : List (Int × Int)) (w : World) (hr : Rd w B 2 A n (flat hs)) (hB : B ≤ w.heap.size) (hn : n ≤ 1000) :
    Calls Try.prog 68 #[.slice A n c] w fun e w' => ∃ v, e = .returned v ∧ Own w' 98 2 v n (flat hs) ∧ (∀ k, v.ownBlock = some k → w.heap.size ≤ k) ∧ Below w.heap.size w w' := by
  obtain ⟨i0, hi0, hz0, hz1, hz2⟩ := info_parts infoH
  have q22 : ∀ (w : World) (a : Option Addr) (n c n' c' : Nat), (binOp .eql 46 (.slice a n c) (.slice none n' c')).run Try.prog w = .ok (.bool a.isNone) w := fun w a n c n' c' => Lib.run_eql_slice_nil w _ _ a n c n' c' Try.underlying46
  cases A with
  | none =>
    have h0 : n = 0 := by
      rcases Nat.eq_zero_or_pos n with h | h
      · exact h
      · obtain ⟨b, off, hA, -⟩ := hr.2 h; cases hA
    subst h0
    have hx : flat hs = [] := List.eq_nil_of_length_eq_zero (by simpa using hr.1)
    have HX := Lib.hid hx
    clear hr hx
    go_enter Try.func68, Try.ntmps68
    go_wp2_with fail
    go_ret
    exact ⟨_, rfl, by rw [HX.out]; exact Own.nil_ _ _ _, by simp [Value.ownBlock], Below.refl _ _⟩
  | some a =>
    have HR := Lib.hid hr
    have HB := Lib.hid hB
    have H1 := Lib.hid (flat_one hs)
    have H63 := Lib.hid (show 0 + n ≤ maxLen by simp only [maxLen]; omega)
    clear hr hB
    generalize flat hs = xs at *
    go_enter Try.func68, Try.ntmps68
    go_wp2_with (at_builtin; go_loud (refine wpList_append_rd _ rfl (.tmp 5) (.tmp 6) _ rfl 98 i0 _ 2 16 Try.underlying46 hi0 hz0 hz1 hz2 rfl (by omega) (.slice (some ⟨w.heap.size, 0, none⟩) 0 0) 0 [] rfl (by exact Own.lit w 98 2 0 #[] rfl (by decide)) _ (some a) n c xs rfl (by exact HR.out.below (below_al (Below.refl _ w) _ |>.mono HB.out)) H1.out H63.out (by omega) _ rfl ?_; intro v2 w2 hown2 hgrow2 hat2; rw [Nat.zero_add, List.nil_append] at hown2; have HO2 := Lib.hid hown2; have HB2 := Lib.hid (Below.grown (below_al (Below.refl _ w) (.cells #[] 98)) hgrow2 (by simp) (by simp [Value.ownBlock])); have HK2 : Hid (∀ k, v2.ownBlock = some k → w.heap.size ≤ k) := (fun k hk => by rcases hat2 with h | h; (have := h.symm.trans hk; simp [Value.ownBlock] at this; omega); (have := h.symm.trans hk; simp at this; omega)); clear hown2 hgrow2 hat2))
    go_ret
    exact ⟨v2, rfl, HO2.out, HK2.out, HB2.out⟩
end Go.Proofs.Ytjfkppbfckgckaa
namespace Go.Rb
open Go.RowKit

/-- A thing that operation k changes, with the value that it yields. -/
structure Obj1 where
  k : Nat
  pre : World → Prop
  post : Value → World → Prop
def Obj1.at_ (b : Obj1) (l : List Oper) (a : Act) (listed : Array Bool) (W : World) : Prop :=
  (listed[b.k]? = some true → ∃ v, (∀ d, dstOf l b.k = some d → a.tmps[d]? = some v) ∧ b.post v W) ∧ (listed[b.k]? ≠ some true → b.pre W)
section
variable (P : Program) (l : List Oper) (n : Nat) (Q : Exit → Act → World → Prop) (R : World → World → Prop) (F : Nat → Value → World → Prop) (b : Obj1) (a0 : Act) (w0 : World)
/-- One operation of the head: a slot that the tail alone writes may be read. -/
def RTStep (i : Nat) (o : Oper) : Prop :=
  ∀ a W, R w0 W → (i = b.k → b.pre W) → (∀ t v, unwritten (l.take n) t = true → a0.tmps[t]? = some v → a.tmps[t]? = some v ∧ a.tmps.getD t undef = v) →
    (∀ j d, waitsFor o j = true → dstOf l j = some d → ∃ v, a.tmps[d]? = some v ∧ a.tmps.getD d undef = v ∧ F j v W) →
    ∀ K : Act → World → Prop, (∀ v W', R W W' → F i v W' → (i = b.k → b.post v W') → (i ≠ b.k → (b.pre W → b.pre W') ∧ ∀ u, b.post u W → b.post u W') → K (a.put o.dst v) W') →
      if Region.wanted o (yielded l.toArray a.tmps) = true then o.wp P a W K Q else K (a.put o.dst undef) W
def RTSteps : Nat → List Oper → Prop
  | _, [] => True
  | i, o :: rest => RTStep P l n Q R F b a0 w0 i o ∧ RTSteps (i + 1) rest
end
section
variable {P : Program} {l : List Oper} {Q : Exit → Act → World → Prop} {R : World → World → Prop} {F : Nat → Value → World → Prop} {b : Obj1} {a0 : Act} {w0 : World}

theorem RTSteps.get {n k : Nat} {m : List Oper} (h : RTSteps P l n Q R F b a0 w0 k m) {i : Nat} {o : Oper} (hi : m[i]? = some o) : RTStep P l n Q R F b a0 w0 (k + i) o := by
  induction m generalizing k i with
  | nil => simp at hi
  | cons x m ih =>
    cases i with
    | zero => simp at hi; subst hi; exact h.1
    | succ i =>
      have := ih h.2 (by simpa using hi)
      rwa [show k + 1 + i = k + (i + 1) by omega] at this
theorem rg_tailo {n : Nat} (htl : tailOk l n = true) (htrans : ∀ W W' W'', R W W' → R W' W'' → R W W'') (hstab : ∀ i v W W', F i v W → R W W' → F i v W') (hlex : lexOk l a0.tmps.size = true)
    (hbk : b.k < n) (steps : RTSteps P l n Q R F b a0 w0 0 (l.take n))
    (fin : ∀ a W, RGInv l R F a0 w0 (headListed l.length n) a W → (∃ v, (∀ d, dstOf l b.k = some d → a.tmps[d]? = some v) ∧ b.post v W) → wpList P l.toArray Q (l.drop n) a W) :
    ∀ (fuel : Nat) (listed : Array Bool) (a : Act) (W : World), (listed.toList.filter (· == false)).length = fuel → HeadInv .any l.toArray n listed → RGInv l R F a0 w0 listed a W → b.at_ l a listed W → wpAny P .any l.toArray Q fuel listed a W := by
  simp only [tailOk, Bool.and_eq_true, decide_eq_true_eq] at htl
  obtain ⟨⟨⟨hnl, hsink⟩, hchain⟩, hseq⟩ := htl
  -- the head is done
  have full : ∀ (fuel : Nat) (listed : Array Bool) (a : Act) (W : World), (listed.toList.filter (· == false)).length = fuel → HeadInv .any l.toArray n listed → RGInv l R F a0 w0 listed a W → b.at_ l a listed W → (∀ i, i < n → listed[i]? = some true) → wpAny P .any l.toArray Q fuel listed a W := by
    intro fuel listed a W hf hH hI hO hall
    have hrep : listed = headListed l.length n := by
      apply Array.ext_getElem?
      intro i
      unfold headListed
      by_cases hi : i < n
      · rw [hall i hi, Array.getElem?_append_left (by simpa using hi)]; simp [hi]
      · by_cases h2 : i < l.length
        · have h3 := hH.tail i (by omega) (by simpa using h2)
          have hs : i < listed.size := by rw [hI.size]; exact h2
          have h4 : listed[i]? = some false := by
            rw [Array.getElem?_eq_getElem hs]
            simpa [hs] using h3
          rw [h4, Array.getElem?_append_right (by simp; omega), Array.getElem?_replicate, if_pos (by simp; omega)]
        · rw [Array.getElem?_eq_none (by rw [hI.size]; omega), Array.getElem?_eq_none (by simp; omega)]
    subst hrep
    have hcnt : fuel = (l.drop n).length := by
      rw [← hf]
      simp [headListed]
    subst hcnt
    exact wpAny_of_seq (l.drop n) n _ a W (fun j => by simp) hseq (fin a W hI (hO.1 (hall b.k hbk)))
  intro fuel
  induction fuel with
  | zero =>
    intro listed a W hf hH hI hO
    exfalso
    have hlt : n < listed.size := by rw [hI.size]; exact hnl
    have h3 := hH.tail n (Nat.le_refl _) (by simpa using hnl)
    have h4 : listed[n] = false := by simpa [hlt] using h3
    have : false ∈ listed.toList.filter (· == false) := by
      rw [List.mem_filter]
      exact ⟨by rw [← h4]; simp, rfl⟩
    have hlen := List.length_pos_of_mem this
    omega
  | succ fuel ih =>
    intro listed a W hf hH hI hO
    by_cases hall : ∀ i, i < n → listed[i]? = some true
    · exact full _ listed a W hf hH hI hO hall
    · have ⟨i0, hi0, hu0, hready⟩ : ∃ i, i < n ∧ listed.getD i true = false ∧ i ∈ Region.ready .any l.toArray listed := by
        have hex : ∃ i, i < n ∧ listed[i]? ≠ some true := by
          by_cases h : ∃ i, i < n ∧ listed[i]? ≠ some true
          · exact h
          · exact absurd (fun i hi => by
              by_cases h2 : listed[i]? = some true
              · exact h2
              · exact absurd ⟨i, hi, h2⟩ h) hall
        obtain ⟨j, hj⟩ := hex
        have hmin : ∃ i, (i < n ∧ listed[i]? ≠ some true) ∧ ∀ m, m < i → ¬ (m < n ∧ listed[m]? ≠ some true) := by
          induction j using Nat.strongRecOn with
          | _ j ihj =>
            by_cases h : ∃ m, m < j ∧ (m < n ∧ listed[m]? ≠ some true)
            · obtain ⟨m, hm, hm2⟩ := h
              exact ihj m hm hm2
            · exact ⟨j, hj, fun m hm hm2 => h ⟨m, hm, hm2⟩⟩
        obtain ⟨i, ⟨hi, hne⟩, hleast⟩ := hmin
        have hil : i < l.length := by omega
        have hsz : i < listed.size := by rw [hI.size]; exact hil
        have hb : listed[i] = false := by
          cases hb : listed[i] with
          | false => rfl
          | true => rw [Array.getElem?_eq_getElem hsz, hb] at hne; exact absurd rfl hne
        have hgd : listed.getD i true = false := by simp [hsz, hb]
        refine ⟨i, hi, hgd, ?_⟩
        unfold Region.ready
        rw [List.mem_filter]
        refine ⟨by simpa using hil, ?_⟩
        simp only [hgd, Bool.not_false, Bool.true_and]
        have hli : l.toArray[i]? = some l[i] := by simp [hil]
        rw [hli]
        simp only [Option.map_some, Option.getD_some, Array.all_eq_true_iff_forall_mem]
        intro e he
        cases hbe : Region.binds .any e with
        | false => rfl
        | true =>
          have hlt := lexOk_edge hlex (List.getElem?_eq_getElem hil) he hbe
          have h5 : listed[e.on]? = some true := by
            by_cases h6 : listed[e.on]? = some true
            · exact h6
            · exact absurd ⟨by omega, h6⟩ (hleast e.on hlt)
          simp [Array.getD_eq_getD_getElem?, h5]
      refine ⟨fun h => absurd hready (by rw [h]; simp), fun i hi => ?_⟩
      have hin : i < n := by
        rcases Nat.lt_or_ge i n with h | h
        · exact h
        · exact absurd hi (tail_waits hsink hchain (by simpa using hnl) hH _ i0 rfl hi0 hu0 i h)
      have hiready := hi
      unfold Region.ready at hi
      rw [List.mem_filter] at hi
      obtain ⟨hir, hi2⟩ := hi
      have hil : i < l.length := by simpa using hir
      have hli : l.toArray[i]? = some l[i] := by simp [hil]
      rw [hli] at hi2
      simp only [Bool.and_eq_true, Bool.not_eq_true', Option.map_some, Option.getD_some, Array.all_eq_true_iff_forall_mem] at hi2
      obtain ⟨hnl', hdeps⟩ := hi2
      have hsz : i < listed.size := by rw [hI.size]; exact hil
      have hx : listed[i] = false := by simpa [Array.getD, hsz] using hnl'
      have hst := steps.get (i := i) (o := l[i]) (by rw [List.getElem?_take, if_pos hin, List.getElem?_eq_getElem hil])
      rw [Nat.zero_add] at hst
      have hfacts : ∀ j d, waitsFor l[i] j = true → dstOf l j = some d → ∃ v, a.tmps[d]? = some v ∧ a.tmps.getD d undef = v ∧ F j v W := by
        intro j d hw hd
        unfold waitsFor at hw
        rw [← Array.any_toList, List.any_eq_true] at hw
        obtain ⟨e, he, hbe⟩ := hw
        have he := Array.mem_toList_iff.1 he
        simp only [Bool.and_eq_true, beq_iff_eq] at hbe
        have h1 := hdeps e he
        rw [hbe.1, hbe.2] at h1
        have hj : listed[j]? = some true := by
          have h2 : listed.getD j false = true := by simpa using h1
          rw [Array.getD_eq_getD_getElem?] at h2
          cases hlj : listed[j]? with
          | none => rw [hlj] at h2; simp at h2
          | some b => rw [hlj] at h2; simpa using h2
        obtain ⟨v, hv, hF⟩ := hI.done j hj
        exact ⟨v, hv d hd, by rw [Array.getD_eq_getD_getElem?, hv d hd]; rfl, hF⟩
      have hkeep : ∀ t v, unwritten (l.take n) t = true → a0.tmps[t]? = some v → a.tmps[t]? = some v ∧ a.tmps.getD t undef = v := by
        intro t v ht h0
        suffices hs : a.tmps[t]? = some v by exact ⟨hs, by rw [Array.getD_eq_getD_getElem?, hs]; rfl⟩
        rw [← h0]
        refine hI.old t fun j hjl hj => ?_
        have hjs : j < listed.size := by
          rcases Nat.lt_or_ge j listed.size with h | h
          · exact h
          · rw [Array.getElem?_eq_none h] at hjl; cases hjl
        have hjn : j < n := by
          rcases Nat.lt_or_ge j n with h | h
          · exact h
          · have h3 := hH.tail j h (by rw [hI.size] at hjs; simpa using hjs)
            have h4 : listed[j] = false := by simpa [hjs] using h3
            rw [Array.getElem?_eq_getElem hjs, h4] at hjl
            simp at hjl
        unfold dstOf at hj
        cases hlj : l[j]? with
        | none => rw [hlj] at hj; simp at hj
        | some o =>
          rw [hlj] at hj
          have := List.all_eq_true.1 ht o (List.mem_of_getElem? (i := j) (by rw [List.getElem?_take, if_pos hjn, hlj]))
          have hj' : o.dst = some t := by simpa using hj
          rw [hj'] at this
          simp at this
      -- the state behind it
      have next : ∀ v W', R W W' → F i v W' → (i = b.k → b.post v W') → (i ≠ b.k → (b.pre W → b.pre W') ∧ ∀ u, b.post u W → b.post u W') → wpAny P .any l.toArray Q fuel (listed.setIfInBounds i true) (a.put l[i].dst v) W' := by
        intro v W' hR hF hB1 hB2
        have hget : ∀ k, (listed.setIfInBounds i true)[k]? = some true → k = i ∨ listed[k]? = some true := by
          intro k hk
          rw [Array.getElem?_setIfInBounds] at hk
          by_cases hki : i = k
          · exact .inl hki.symm
          · rw [if_neg hki] at hk; exact .inr hk
        have hdi : dstOf l i = l[i].dst := by simp [dstOf, hil]
        have hput : ∀ t, l[i].dst ≠ some t → (a.put l[i].dst v).tmps[t]? = a.tmps[t]? := by
          intro t ht
          cases hd : l[i].dst with
          | none => rfl
          | some d =>
            have hne : d ≠ t := fun e => ht (by rw [hd, e])
            simp [Act.put, Array.getElem?_setIfInBounds_ne hne]
        refine ih _ _ _ ?_ (hH.set hiready hin) ⟨by simpa using hI.size, ?_, ?_, htrans _ _ _ hI.rel hR, ?_, ?_⟩ ?_
        rotate_right
        · by_cases hik : i = b.k
          · subst hik
            refine ⟨fun _ => ⟨v, fun d hd => ?_, hB1 rfl⟩, fun hn => absurd ?_ hn⟩
            · have hdd : l[b.k].dst = some d := by rw [← hdi]; exact hd
              have hlt : d < a.tmps.size := by rw [hI.tsize]; exact lexOk_dst hlex hd
              rw [hdd]
              simp [Act.put, hlt]
            · rw [Array.getElem?_setIfInBounds, if_pos rfl, if_pos hsz]
          · obtain ⟨h1, h2⟩ := hB2 hik
            refine ⟨fun hk => ?_, fun hn => h1 (hO.2 (fun hk => hn ?_))⟩
            · rcases hget b.k hk with h | h
              · exact absurd h.symm hik
              · obtain ⟨u, hu, hp⟩ := hO.1 h
                refine ⟨u, fun d hd => ?_, h2 u hp⟩
                rw [hput d (fun e => hik ((lexOk_apart hlex (by rw [hdi]; exact e) hd)))]
                exact hu d hd
            · rw [Array.getElem?_setIfInBounds, if_neg hik]; exact hk
        · have hcnt : ∀ (L : List Bool) (k : Nat), L[k]? = some false → ((L.set k true).filter (· == false)).length + 1 = (L.filter (· == false)).length := by
            intro L
            induction L with
            | nil => intro k hk; simp at hk
            | cons b L ihL =>
              intro k hk
              cases k with
              | zero => simp at hk; subst hk; simp
              | succ k =>
                have := ihL k (by simpa using hk)
                cases b <;> simp at this ⊢ <;> omega
          have h1 := hcnt listed.toList i (by rw [Array.getElem?_toList, Array.getElem?_eq_getElem hsz, hx])
          rw [Array.toList_setIfInBounds]
          omega
        · rw [← hI.defers]; cases l[i].dst <;> rfl
        · rw [← hI.tsize]; cases l[i].dst <;> simp [Act.put]
        · intro t ht
          have h1 : l[i].dst ≠ some t := by
            rw [← hdi]
            exact ht i (by rw [Array.getElem?_setIfInBounds, if_pos rfl, if_pos hsz])
          rw [hput t h1]
          refine hI.old t fun j hj => ht j ?_
          rw [Array.getElem?_setIfInBounds]
          by_cases hij : i = j
          · rw [if_pos hij, if_pos hsz]
          · rw [if_neg hij]; exact hj
        · intro k hk
          by_cases hki : k = i
          · subst hki
            refine ⟨v, fun d hd => ?_, hF⟩
            have hdd : l[k].dst = some d := by rw [← hdi]; exact hd
            have hlt : d < a.tmps.size := by rw [hI.tsize]; exact lexOk_dst hlex hd
            rw [hdd]
            simp [Act.put, hlt]
          · rcases hget k hk with h | h
            · exact absurd h hki
            · obtain ⟨u, hu, hFu⟩ := hI.done k h
              refine ⟨u, fun d hd => ?_, hstab _ _ _ _ hFu hR⟩
              rw [hput d (fun e => hki (lexOk_apart hlex hd (by rw [hdi]; exact e)))]
              exact hu d hd
      unfold wpOp
      rw [hli]
      have h2 := hst a W hI.rel (fun hik => hO.2 (fun hk => by rw [← hik, Array.getElem?_eq_getElem hsz, hx] at hk; simp at hk)) hkeep hfacts (wpAny P .any l.toArray Q fuel (listed.setIfInBounds i true)) next
      dsimp only
      split
      · rename_i hw; rw [if_pos hw] at h2; exact .inl h2
      · rename_i hw; rw [if_neg hw] at h2; exact h2

/-- A REGION THAT DRAWS ITS ORDER AND ENDS IN A CHAIN. -/
theorem region_tailo {id : Nat} {w : World} (n : Nat) (hm : P.follows .mixedOrders = true) (htl : tailOk l n = true) (R : World → World → Prop) (rows : List (Row R))
    (hrefl : ∀ W, R W W) (htrans : ∀ W W' W'', R W W' → R W' W'' → R W W'') (hlex : lexOk l a0.tmps.size = true)
    (b : Obj1) (hbk : b.k < n) (hpre : b.pre w.drew) (hbd : (dstOf l b.k).isSome = true)
    (steps : RTSteps P l n Q R (rowAt rows) b a0 w.drew 0 (l.take n))
    (fin : ∀ (vs : Nat → Value) W, R w.drew W → b.post (vs b.k) W → (∀ i, i < n → rowAt rows i (vs i) W) → wpList P l.toArray Q (l.drop n) { a0 with tmps := setAll vs 0 (l.take n) a0.tmps } W) : (Code.region id l.toArray true).wp P Q a0 w := by
  have hnl : n < l.length := by simp only [tailOk, Bool.and_eq_true, decide_eq_true_eq] at htl; exact htl.1.1.1
  refine wp_region_any hm ?_
  refine rg_tailo (R := R) (F := rowAt rows) (b := b) (a0 := a0) (w0 := w.drew) (n := n) htl htrans (fun i v W W' => (rows.getD i .any).h v W W') hlex hbk steps ?_ _ _ _ _ ?_ ⟨by simp, fun j oj _ hl => absurd hl (by rw [getD_replicate_false]; decide), fun t _ ht => by
      simp at ht
      simp [ht]⟩ ⟨by simp, rfl, rfl, hrefl _, fun _ _ => rfl, ?_⟩ ⟨fun hk => absurd hk (by rw [Array.getElem?_replicate]; split <;> simp), fun _ => hpre⟩
  · intro a W hI hO
    have hlisted : ∀ i, i < n → (headListed l.length n)[i]? = some true := fun i hi => by
      unfold headListed
      rw [Array.getElem?_append_left (by simpa using hi)]
      simp [hi]
    have hlisted2 : ∀ i, (headListed l.length n)[i]? = some true → i < n := fun i hi => by
      rcases Nat.lt_or_ge i n with h | h
      · exact h
      · unfold headListed at hi
        rw [Array.getElem?_append_right (by simpa using h), Array.getElem?_replicate] at hi
        split at hi <;> simp at hi
    have hch : ∀ i, ∃ v, i < n → (∀ d, dstOf l i = some d → a.tmps[d]? = some v) ∧ rowAt rows i v W := by
      intro i
      by_cases hi : i < n
      · obtain ⟨v, hv⟩ := hI.done i (hlisted i hi)
        exact ⟨v, fun _ => hv⟩
      · exact ⟨undef, fun h => absurd h hi⟩
    have hvs := fun i => (hch i).choose_spec
    have hdt : ∀ i d, dstOf (l.take n) i = some d → i < n ∧ dstOf l i = some d := fun i d hd => by
      unfold dstOf at hd ⊢
      rw [List.getElem?_take] at hd
      by_cases hi : i < n
      · rw [if_pos hi] at hd; exact ⟨hi, hd⟩
      · rw [if_neg hi] at hd; simp at hd
    have he : a = { a0 with tmps := setAll (fun i => (hch i).choose) 0 (l.take n) a0.tmps } := by
      have ht : a.tmps = setAll (fun i => (hch i).choose) 0 (l.take n) a0.tmps := by
        apply Array.ext_getElem?
        intro t
        by_cases hw : ∃ i, dstOf (l.take n) i = some t
        · obtain ⟨i, hi⟩ := hw
          obtain ⟨hin, hil⟩ := hdt i t hi
          rw [setAll_at _ (l.take n) 0 a0.tmps i t (lexOk_dst hlex hil) hi (fun j hj => lexOk_apart hlex (hdt j t hj).2 hil), Nat.zero_add]
          exact (hvs i hin).1 t hil
        · rw [setAll_other]
          · exact hI.old t fun i hi hd => hw ⟨i, by
              have hin := hlisted2 i hi
              unfold dstOf at hd ⊢
              rw [List.getElem?_take, if_pos hin]; exact hd⟩
          · intro o ho hd
            obtain ⟨j, hj⟩ := List.getElem?_of_mem ho
            exact hw ⟨j, by simp [dstOf, hj, hd]⟩
      obtain ⟨tm, df⟩ := a
      have hd := hI.defers
      simp only at ht hd
      show Act.mk tm df = Act.mk _ _
      rw [← ht, hd]
    have hpost : b.post (hch b.k).choose W := by
      obtain ⟨d, hd⟩ := Option.isSome_iff_exists.1 hbd
      obtain ⟨v, hv, hp⟩ := hO
      have e := (hvs b.k hbk).1 d hd
      rw [hv d hd] at e
      injection e with e
      rw [← e]; exact hp
    rw [he]
    exact fin _ W hI.rel hpost fun i hi => (hvs i hi).2
  · simp
  · intro i hi
    rw [Array.getElem?_replicate] at hi
    split at hi <;> simp at hi
end
end Go.Rb
namespace Go.Proofs.Ytjfkppbfckgckaa
set_option maxRecDepth 20000
open Go.RowKit Go.Rb
attribute [local irreducible] Go.wpQuiet

def insCells (t : Ins) (sv : Value) : List Value := [.int .i64 t.op, sv, .int .i64 t.x, .int .i64 t.y]
def insRow : List Ins → List Value → List Value
  | t :: ts, sv :: svs => insCells t sv ++ insRow ts svs
  | _, _ => []
theorem insRow_snoc (l : List Ins) (svs : List Value) (h : svs.length = l.length) (t : Ins) (sv : Value) : insRow (l ++ [t]) (svs ++ [sv]) = insRow l svs ++ insCells t sv := by
  induction l generalizing svs with
  | nil =>
    obtain rfl : svs = [] := List.eq_nil_of_length_eq_zero (by simpa using h)
    simp [insRow]
  | cons a l ih =>
    cases svs with
    | nil => simp at h
    | cons b svs => simp only [List.cons_append, insRow, ih svs (by simpa using h), List.append_assoc]
theorem insRow_len (l : List Ins) (svs : List Value) (h : svs.length = l.length) : (insRow l svs).length = l.length * 4 := by
  induction l generalizing svs with
  | nil => simp [insRow]
  | cons a l ih =>
    cases svs with
    | nil => simp at h
    | cons b svs => simp only [insRow, List.length_append, insCells, List.length_cons, List.length_nil, ih svs (by simpa using h)]; omega
def setX (v : Int) (t : Ins) : Ins := { t with x := v }
def setY (v : Int) (t : Ins) : Ins := { t with y := v }
theorem insRow_x (l : List Ins) (svs : List Value) (h : svs.length = l.length) (i : Nat) (hi : i < l.length) (v : Int) : (insRow l svs).set (i * 4 + 2) (.int .i64 v) = insRow (l.modify i (setX v)) svs := by
  induction l generalizing svs i with
  | nil => simp at hi
  | cons a l ih =>
    cases svs with
    | nil => simp at h
    | cons b svs =>
      cases i with
      | zero => simp [insRow, insCells, setX]
      | succ i =>
        have := ih svs (by simpa using h) i (by simpa using hi)
        simp only [insRow, insCells, List.modify_succ_cons]
        rw [show (i + 1) * 4 + 2 = i * 4 + 2 + 4 by omega, ← this]
        simp
theorem insRow_y (l : List Ins) (svs : List Value) (h : svs.length = l.length) (i : Nat) (hi : i < l.length) (v : Int) : (insRow l svs).set (i * 4 + 3) (.int .i64 v) = insRow (l.modify i (setY v)) svs := by
  induction l generalizing svs i with
  | nil => simp at hi
  | cons a l ih =>
    cases svs with
    | nil => simp at h
    | cons b svs =>
      cases i with
      | zero => simp [insRow, insCells, setY]
      | succ i =>
        have := ih svs (by simpa using h) i (by simpa using hi)
        simp only [insRow, insCells, List.modify_succ_cons]
        rw [show (i + 1) * 4 + 3 = i * 4 + 3 + 4 by omega, ← this]
        simp
/-- What a maker's method leaves alone: all that is below B, and all that is no instruction and no maker. -/
structure Fr (B : Nat) (w w' : World) : Prop where
  below : Below B w w'
  keep : ∀ k cs t, Blk w k t cs → t ≠ 48 → t ≠ 81 → Blk w' k t cs
theorem Fr.refl (B : Nat) (w : World) : Fr B w w := ⟨Below.refl _ _, fun _ _ _ h _ _ => h⟩
theorem Fr.size {B : Nat} {w w' : World} (h : Fr B w w') : w.heap.size ≤ w'.heap.size := h.below.size
theorem Fr.trans {B : Nat} {w w' w'' : World} (h : Fr B w w') (h' : Fr B w' w'') : Fr B w w'' := ⟨h.below.trans h'.below, fun k cs t hb h1 h2 => h'.keep k cs t (h.keep k cs t hb h1 h2) h1 h2⟩
theorem Fr.of_below {B : Nat} {w w' : World} (h : Below w.heap.size w w') (hB : B ≤ w.heap.size) : Fr B w w' := ⟨h.mono hB, fun _ _ _ hb _ _ => hb.below h hb.lt⟩
theorem Fr.of_only {B : Nat} {S : Nat → Prop} {w w' : World} (h : Only S w w') (hB : B ≤ w.heap.size) (hS : ∀ k, S k → B ≤ k ∧ ∀ t cs, Blk w k t cs → t = 48 ∨ t = 81) : Fr B w w' :=
  ⟨h.below hB fun k hk => (hS k hk).1, fun k cs t hb h1 h2 => hb.only h fun hk => (hS k hk).2 t cs hb |>.elim h1 h2⟩
theorem Own.fr {B : Nat} {w w' : World} {e : TypeId} {sz n : Nat} {v : Value} {xs : List Value} (h : Own w e sz v n xs) (hf : Fr B w w') (h1 : e ≠ 48) (h2 : e ≠ 81) : Own w' e sz v n xs := by
  refine h.keep fun k hk => ?_
  rcases h.2 with ⟨rfl, _⟩ | ⟨g, off, cap, cur, rfl, hg, _⟩
  · simp [Value.ownBlock] at hk
  · obtain rfl : g = k := by simpa [Value.ownBlock] using hk
    exact (hf.keep g cur e hg h1 h2).trans hg.symm
theorem SetV.fr {B : Nat} {w w' : World} {v : Value} {s : List (Int × Int)} (h : SetV w v s) (hf : Fr B w w') : SetV w' v s := Own.fr h hf (by decide) (by decide)
theorem NdV.fr {B : Nat} {w w' : World} {S : Nat → Prop} {v : Value} {n : Nd} (h : NdV w S v n) (hf : Fr B w w') : NdV w' S v n := by
  induction h with
  | mk op mn mx set kids sv kv vs h1 h3 h4 h5 _ ih => exact .mk op mn mx set kids sv kv vs (h1.fr hf) h3 (Own.fr h4 hf (by decide) (by decide)) h5 ih
/-- A program under way, in the maker's block m. -/
def Mk (B : Nat) (w : World) (m : Nat) (ps : List Ins) : Prop := B ≤ m ∧ ∃ (sl : Value) (svs : List Value), Blk w m 81 #[sl] ∧ (∀ k, sl.ownBlock = some k → B ≤ k) ∧ svs.length = ps.length ∧
  Own w 48 4 sl ps.length (insRow ps svs) ∧ ∀ (i : Nat) (t : Ins), ps[i]? = some t → ∃ sv, svs[i]? = some sv ∧ SetV w sv t.set
theorem Mk.under {B m : Nat} {w w' : World} {ps : List Ins} (h : Mk B w m ps) (hb : Below w.heap.size w w') : Mk B w' m ps := by
  obtain ⟨h0, sl, svs, h1, h2, h3, h4, h5⟩ := h
  refine ⟨h0, sl, svs, h1.below hb h1.lt, h2, h3, h4.below hb fun k hk => h4.lt hk, fun i t hi => ?_⟩
  obtain ⟨sv, e, hs⟩ := h5 i t hi
  exact ⟨sv, e, hs.below hb⟩
/-- A field of an instruction is told. -/
theorem Mk.put_ {B m i j : Nat} {w : World} {ps ps' : List Ins} {g off c : Nat} {svs : List Value} {u : Value} (h0 : B ≤ m) (h1 : Blk w m 81 #[.slice (some ⟨g, off, none⟩) ps.length c]) (h2 : ∀ k, (Value.slice (some ⟨g, off, none⟩) ps.length c).ownBlock = some k → B ≤ k) (h3 : svs.length = ps.length)
    (h4 : Own w 48 4 (.slice (some ⟨g, off, none⟩) ps.length c) ps.length (insRow ps svs)) (h5 : ∀ (i : Nat) (t : Ins), ps[i]? = some t → ∃ sv, svs[i]? = some sv ∧ SetV w sv t.set)
    (hj : i * 4 + j < ps.length * 4) (hrow : (insRow ps svs).set (i * 4 + j) u = insRow ps' svs) (hlen : ps'.length = ps.length) (hset : ∀ (i : Nat) (t : Ins), ps'[i]? = some t → ∃ t', ps[i]? = some t' ∧ t'.set = t.set) :
    Mk B (w.setCell ⟨g, off + (i * 4 + j), none⟩ u) m ps' := by
  have hgm : g ≠ m := fun e => own_ne_blk_ h4 h1 (by decide) (by simp [Value.ownBlock, e])
  refine ⟨h0, .slice (some ⟨g, off, none⟩) ps.length c, svs, h1.far (fun e => hgm e.symm) u, h2, by rw [h3, hlen], ?_, fun i1 t hi => ?_⟩
  · rw [hlen, ← hrow]
    exact h4.store (i * 4 + j) hj u
  · obtain ⟨t', ht', e⟩ := hset i1 t hi
    obtain ⟨sv, e1, hs⟩ := h5 i1 t' ht'
    refine ⟨sv, e1, ?_⟩
    rw [← e]
    exact Own.setCell (p := ⟨g, off + (i * 4 + j), none⟩) hs (fun hk => own_ne_ hs h4 (by decide) hk rfl) u
theorem fr_set {B g : Nat} {w : World} {cur : Array Value} {t : TypeId} (hb : Blk w g t cur) (hB : B ≤ g) (ht : t = 48 ∨ t = 81) (j : Nat) (u : Value) : Fr B w (w.setCell ⟨g, j, none⟩ u) := by
  have ho : Only (fun k => k = g) w (w.setCell ⟨g, j, none⟩ u) := (Only.refl (fun k => k = g) w).setCell (p := ⟨g, j, none⟩) (fun _ => rfl) u
  refine Fr.of_only (S := fun k => k = g) ho (Nat.le_trans hB (Nat.le_of_lt hb.lt)) ?_
  rintro k rfl
  refine ⟨hB, fun t' cs' h => ?_⟩
  unfold Blk at h hb
  rw [hb] at h
  simp only [Option.some.injEq, Obj.cells.injEq, and_true] at h
  rw [← h.2]
  exact ht
theorem modify_set {i : Nat} {l : List Ins} {f : Ins → Ins} (hf : ∀ t, (f t).set = t.set) : ∀ (k : Nat) (t : Ins), (l.modify i f)[k]? = some t → ∃ t', l[k]? = some t' ∧ t'.set = t.set := by
  intro k t h
  rw [List.getElem?_modify] at h
  cases hl : l[k]? with
  | none => rw [hl] at h; simp at h
  | some t' =>
    rw [hl] at h
    simp only [Option.map_eq_map, Option.map_some, Option.some.injEq] at h
    refine ⟨t', rfl, ?_⟩
    rw [← h]
    split
    · exact (hf t').symm
    · rfl
end Go.Proofs.Ytjfkppbfckgckaa
namespace Go.Proofs.Ytjfkppbfckgckaa
set_option maxRecDepth 20000
open Go.RowKit Go.Rb
attribute [local irreducible] Go.wpQuiet

def zeroIn : Value := .agg #[.int .i64 0, .slice none 0 0, .int .i64 0, .int .i64 0]
theorem infoI : (Try.prog.info? 48).map (fun i => (i.zero, i.size, i.bytes)) = some (some zeroIn, 4, 48) := by kernel_rfl
def setRow (B : Nat) (ob : Option Nat) (s : List (Int × Int)) (hob : ∀ k, ob = some k → k < B) : Row (Only fun k => ob = some k) := ⟨fun v W => ∃ A c, v = .slice A s.length c ∧ SetV W (.slice A s.length c) s ∧ ∀ k, (Value.slice A s.length c).ownBlock = some k → B ≤ k,
  fun _ _ _ ⟨A, c, e, h, hk⟩ hR => ⟨A, c, e, Own.only h hR fun k hk1 hk2 => by have := hk k hk1; have := hob k hk2; omega, hk⟩⟩
def insRow1 (B : Nat) (ob : Option Nat) (op : Int) (n : Nat) (s : List (Int × Int)) (hob : ∀ k, ob = some k → k < B) : Row (Only fun k => ob = some k) := ⟨fun v W => ∃ A c, v = .agg #[.int .i64 op, .slice A s.length c, .int .i64 ((n : Int) + 1), .int .i64 0] ∧ SetV W (.slice A s.length c) s ∧ ∀ k, (Value.slice A s.length c).ownBlock = some k → B ≤ k,
  fun _ _ _ ⟨A, c, e, h, hk⟩ hR => ⟨A, c, e, Own.only h hR fun k hk1 hk2 => by have := hk k hk1; have := hob k hk2; omega, hk⟩⟩
def insRow2 (B : Nat) (ob : Option Nat) (op : Int) (n : Nat) (s : List (Int × Int)) (hob : ∀ k, ob = some k → k < B) : Row (Only fun k => ob = some k) := ⟨fun v W => ∃ g A c, v = .slice (some ⟨g, 0, none⟩) 1 1 ∧ B ≤ g ∧ Blk W g 48 #[.int .i64 op, .slice A s.length c, .int .i64 ((n : Int) + 1), .int .i64 0] ∧ SetV W (.slice A s.length c) s ∧ ∀ k, (Value.slice A s.length c).ownBlock = some k → B ≤ k,
  fun _ _ _ ⟨g, A, c, e, hg, hb, h, hk⟩ hR => ⟨g, A, c, e, hg, hb.only hR (fun h => by have := hob g h; omega), Own.only h hR fun k hk1 hk2 => by have := hk k hk1; have := hob k hk2; omega, hk⟩⟩
theorem insRow2_mk {B : Nat} {ob : Option Nat} {op : Int} {n c : Nat} {A : Option Addr} {s : List (Int × Int)} (hob : ∀ k, ob = some k → k < B) (W : World) (hB : B ≤ W.heap.size) (h : SetV W (.slice A s.length c) s) (hk : ∀ k, (Value.slice A s.length c).ownBlock = some k → B ≤ k) :
    (insRow2 B ob op n s hob).p (.slice (some ⟨W.heap.size, 0, none⟩) 1 1) (W.alloc (.cells #[.int .i64 op, .slice A s.length c, .int .i64 ((n : Int) + 1), .int .i64 0] 48)) := ⟨_, A, c, rfl, hB, Blk.new _ _ _, h.below (below_al (Below.refl _ _) _), hk⟩
theorem mk_push {B m n g o c' : Nat} {w W : World} {ps : List Ins} {svs : List Value} {op x : Int} {As A' : Option Addr} {cs cc : Nat} {s : List (Int × Int)} (h0 : B ≤ m) (hbk : Blk w m 81 #[.slice As n cs]) (hn : ps.length = n) (hB : ∀ k, (Value.slice As n cs).ownBlock = some k → B ≤ k) (h3 : svs.length = ps.length) (hXS : Own w 48 4 (.slice As n cs) n (insRow ps svs))
    (h5 : ∀ (i : Nat) (t : Ins), ps[i]? = some t → ∃ sv, svs[i]? = some sv ∧ SetV w sv t.set) (hR : Only (fun k => (Value.slice As n cs).ownBlock = some k) w W) (hO : Own W 48 4 (.slice (some ⟨g, o, none⟩) (n + 1) c') (n + 1) (insRow ps svs ++ [.int .i64 op, .slice A' s.length cc, .int .i64 x, .int .i64 0])) (hs : SetV W (.slice A' s.length cc) s)
    (hg : (Value.slice As n cs).ownBlock = some g ∨ w.heap.size ≤ g) : Mk B (W.setCell ⟨m, 0, none⟩ (.slice (some ⟨g, o, none⟩) (n + 1) c')) m (ps ++ [⟨op, s, x, 0⟩]) ∧ Fr B w (W.setCell ⟨m, 0, none⟩ (.slice (some ⟨g, o, none⟩) (n + 1) c')) := by
  have hml := hbk.lt
  have hns : ¬ (Value.slice As n cs).ownBlock = some m := fun e => own_ne_blk_ hXS hbk (by decide) e
  have hbk2 := hbk.only hR hns
  refine ⟨⟨h0, _, svs ++ [.slice A' s.length cc], hbk2.set_ 0 _, ?_, by simp [h3], ?_, ?_⟩, ?_⟩
  · intro k hk
    obtain rfl : g = k := by simpa [Value.ownBlock] using hk
    rcases hg with h | h
    · exact hB _ h
    · omega
  · rw [insRow_snoc _ _ h3, List.length_append, hn]
    exact hO.setCell (p := ⟨m, 0, none⟩) (fun e => own_ne_blk_ hO hbk2 (by decide) e) _
  · intro i t hi
    have key : ∀ (sv : Value) (q : List (Int × Int)), SetV W sv q → SetV (W.setCell ⟨m, 0, none⟩ (.slice (some ⟨g, o, none⟩) (n + 1) c')) sv q := fun sv q h => Own.setCell (p := ⟨m, 0, none⟩) h (own_ne_blk_ h hbk2 (by decide)) _
    by_cases hin : i < ps.length
    · rw [List.getElem?_append_left hin] at hi
      obtain ⟨sv, e1, hs1⟩ := h5 i t hi
      exact ⟨sv, by rw [List.getElem?_append_left (by omega)]; exact e1, key _ _ (Own.only hs1 hR fun k hk e => own_ne_ hs1 hXS (by decide) hk e)⟩
    · have hi2 := (List.getElem?_eq_some_iff.1 hi).1
      obtain rfl : i = ps.length := by simp at hi2; omega
      rw [List.getElem?_append_right (Nat.le_refl _)] at hi
      obtain rfl : (⟨op, s, x, 0⟩ : Ins) = t := by simpa using hi
      exact ⟨_, by rw [List.getElem?_append_right (by omega), h3]; simp, key _ _ hs⟩
  · have ho : Only (fun k => (Value.slice As n cs).ownBlock = some k ∨ k = m) w (W.setCell ⟨m, 0, none⟩ (.slice (some ⟨g, o, none⟩) (n + 1) c')) := (hR.mono fun k _ h => .inl h).setCell (p := ⟨m, 0, none⟩) (fun _ => .inr rfl) _
    refine Fr.of_only ho (by omega) ?_
    rintro k (hk | rfl)
    · refine ⟨hB k hk, fun t cs hb => ?_⟩
      by_cases ht : t = 48
      · exact .inl ht
      · exact absurd hk (own_ne_blk_ hXS hb (fun e => ht e.symm))
    · refine ⟨h0, fun t cs hb => ?_⟩
      by_cases ht : t = 81
      · exact .inr ht
      · exact absurd rfl (hb.ne_ hbk ht)
set_option maxRecDepth 20000 in
set_option maxHeartbeats 2000000 in
theorem put_any {B m c B0 : Nat} {A : Option Addr} {op : Int} {s : List (Int × Int)} {ps : List Ins} {w : World} (hM : Mk B w m ps) (hr : Rd w B0 2 A s.length (flat s)) (hB0 : B0 ≤ w.heap.size) (hs : s.length ≤ 1000) (hps : ps.length ≤ 5000)
    (hbs : ∀ W, Mk B w m ps → (∃ sl, Blk w m 81 #[sl] ∧ Only (fun k => sl.ownBlock = some k) w W) → Rd W B0 2 A s.length (flat s)) :
    Calls Try.prog 55 #[.pointer (some ⟨m, 0, none⟩), .int .i64 op, .slice A s.length c] w fun e w' => e = .returned (.int .i64 (ps.length : Int)) ∧ Mk B w' m (ps ++ [⟨op, s, (ps.length : Int) + 1, 0⟩]) ∧ Fr B w w' := by
  obtain ⟨i0, hi0, hz0, hz1, hz2⟩ := info_parts infoI
  have hM0 := hM
  obtain ⟨h0, sl, svs, hbk, hB, h3, hXS, h5⟩ := hM
  obtain ⟨As, cs, rfl, -, -⟩ := hXS.len_
  have HSR : Hid (∀ W, Only (fun k => (Value.slice As ps.length cs).ownBlock = some k) w.drew W → Rd W B0 2 A s.length (flat s)) := fun W hW => hbs W hM0 ⟨_, hbk, ⟨hW.os, hW.tape, hW.output, hW.size, hW.block⟩⟩
  obtain ⟨n, hn⟩ : ∃ n, ps.length = n := ⟨_, rfl⟩
  rw [hn] at HSR hXS hbk hB hps ⊢
  obtain ⟨XS, hx⟩ : ∃ XS, insRow ps svs = XS := ⟨_, rfl⟩
  have HPUSH := Lib.hid (fun (W : World) (g o c' : Nat) (A' : Option Addr) (cc : Nat) => mk_push (B := B) (m := m) (n := n) (g := g) (o := o) (c' := c') (w := w) (W := W) (ps := ps) (svs := svs) (op := op) (x := (n : Int) + 1) (As := As) (A' := A') (cs := cs) (cc := cc) (s := s) h0 hbk hn hB h3 hXS h5)
  rw [hx] at hXS HPUSH
  have HXS : Hid (Own w.drew 48 4 (.slice As n cs) n XS) := hXS
  have HWS : Hid (∀ k, (Value.slice As n cs).ownBlock = some k → k < w.heap.size) := fun k hk => hXS.lt hk
  have HB0 : Hid (B0 ≤ w.drew.heap.size) := hB0
  have HNS : Hid (¬ (Value.slice As n cs).ownBlock = some m) := fun e => own_ne_blk_ hXS hbk (by decide) e
  have HWR : Hid (IntKind.i64.wrap ((n : Int) + 1) = (n : Int) + 1) := by show _ = _; rw [IntKind.wrap_i64]; omega
  have HBK := Lib.hid hbk
  have hml : m < w.drew.heap.size := hbk.lt
  have y0 : w.drew.cell? ⟨m, 0, none⟩ = some (.slice As n cs) := hbk.cell 0
  clear hM0 hbk hB h3 hXS h5 hx hn hr hbs hB0
  go_enter Try.func55, Try.ntmps55
  go_upto_region 1 with fail
  refine region_tailo 19 (by kernel_rfl) (by kernel_rfl) (Only (fun k => (Value.slice As n cs).ownBlock = some k))
    [.val (.pointer (some ⟨m, 0, none⟩)),
     .val (.pointer (some ⟨m, 0, none⟩)),
     .val (.pointer (some ⟨m, 0, none⟩)),
     .val (.pointer (some ⟨m, 0, none⟩)),
     .val (.slice As n cs),
     .val (.int .i64 op),
     .val (.slice A (s.length) c),
     setRow w.heap.size (Value.slice As n cs).ownBlock s HWS.out,
     .val (.pointer (some ⟨m, 0, none⟩)),
     .val (.pointer (some ⟨m, 0, none⟩)),
     .val (.pointer (some ⟨m, 0, none⟩)),
     .val (.slice As n cs),
     .val (.int .i64 (n : Int)),
     .val (.int .i64 ((n : Int) + 1)),
     insRow1 w.heap.size (Value.slice As n cs).ownBlock op n s HWS.out,
     insRow2 w.heap.size (Value.slice As n cs).ownBlock op n s HWS.out,
     .any,
     .val (.pointer (some ⟨m, 0, none⟩)),
     .val (.pointer (some ⟨m, 0, none⟩))]
    (fun W => Only.refl _ W) (fun _ _ _ h k => h.trans k (fun _ _ h => h)) (by kernel_rfl) (⟨16, fun W => Own W 48 4 (.slice As n cs) n XS, fun v W => ∃ g o c' A' cc, v = .slice (some ⟨g, o, none⟩) (n + 1) c' ∧ Own W 48 4 (.slice (some ⟨g, o, none⟩) (n + 1) c') (n + 1) (XS ++ [.int .i64 op, .slice A' s.length cc, .int .i64 ((n : Int) + 1), .int .i64 0]) ∧ SetV W (.slice A' s.length cc) s ∧ ((Value.slice As n cs).ownBlock = some g ∨ w.heap.size ≤ g)⟩) (by show (16 : Nat) < 19; decide) (HXS.out) (by kernel_rfl) ?_ ?_
  · refine ⟨?_, ?_, ?_, ?_, ?_, ?_, ?_, ?_, ?_, ?_, ?_, ?_, ?_, ?_, ?_, ?_, ?_, ?_, ?_, trivial⟩
    · intro ra RW hR hO hk hd K hK
      obtain ⟨e0, g0⟩ := hk 0 (.pointer (some ⟨m, 0, none⟩)) (by kernel_rfl) rfl
      clear hk hd
      have HR := Lib.hid hR
      clear hR
      have HO := Lib.hid hO
      clear hO
      go_simp
      exact hK _ _ (Only.refl _ _) rfl (fun h => absurd h (by show ¬ ((0 : Nat) = 16); decide)) (fun _ => ⟨id, fun _ => id⟩)
    · intro ra RW hR hO hk hd K hK
      obtain ⟨e0, g0⟩ := hk 0 (.pointer (some ⟨m, 0, none⟩)) (by kernel_rfl) rfl
      clear hk hd
      have HR := Lib.hid hR
      clear hR
      have HO := Lib.hid hO
      clear hO
      go_simp
      exact hK _ _ (Only.refl _ _) rfl (fun h => absurd h (by show ¬ ((1 : Nat) = 16); decide)) (fun _ => ⟨id, fun _ => id⟩)
    · intro ra RW hR hO hk hd K hK
      obtain ⟨v8, e8, g8, f8⟩ := hd 1 8 (by kernel_rfl) rfl
      have f8 : v8 = .pointer (some ⟨m, 0, none⟩) := f8
      subst f8
      clear hk hd
      have HR := Lib.hid hR
      clear hR
      have HO := Lib.hid hO
      clear hO
      go_simp
      exact hK _ _ (Only.refl _ _) rfl (fun h => absurd h (by show ¬ ((2 : Nat) = 16); decide)) (fun _ => ⟨id, fun _ => id⟩)
    · intro ra RW hR hO hk hd K hK
      obtain ⟨v9, e9, g9, f9⟩ := hd 2 9 (by kernel_rfl) rfl
      have f9 : v9 = .pointer (some ⟨m, 0, none⟩) := f9
      subst f9
      clear hk hd
      have HR := Lib.hid hR
      clear hR
      have HO := Lib.hid hO
      clear hO
      go_simp
      exact hK _ _ (Only.refl _ _) rfl (fun h => absurd h (by show ¬ ((3 : Nat) = 16); decide)) (fun _ => ⟨id, fun _ => id⟩)
    · intro ra RW hR hO hk hd K hK
      obtain ⟨v10, e10, g10, f10⟩ := hd 3 10 (by kernel_rfl) rfl
      have f10 : v10 = .pointer (some ⟨m, 0, none⟩) := f10
      subst f10
      clear hk hd
      have HR := Lib.hid hR
      clear hR
      have HO := Lib.hid hO
      clear hO
      have dd0 := (HR.out.cell (p := ⟨m, 0, none⟩) hml HNS.out).trans y0
      go_simp
      exact hK _ _ (Only.refl _ _) rfl (fun h => absurd h (by show ¬ ((4 : Nat) = 16); decide)) (fun _ => ⟨id, fun _ => id⟩)
    · intro ra RW hR hO hk hd K hK
      obtain ⟨e1, g1⟩ := hk 1 (.int .i64 op) (by kernel_rfl) rfl
      clear hk hd
      have HR := Lib.hid hR
      clear hR
      have HO := Lib.hid hO
      clear hO
      go_simp
      exact hK _ _ (Only.refl _ _) rfl (fun h => absurd h (by show ¬ ((5 : Nat) = 16); decide)) (fun _ => ⟨id, fun _ => id⟩)
    · intro ra RW hR hO hk hd K hK
      obtain ⟨e2, g2⟩ := hk 2 (.slice A (s.length) c) (by kernel_rfl) rfl
      clear hk hd
      have HR := Lib.hid hR
      clear hR
      have HO := Lib.hid hO
      clear hO
      go_simp
      exact hK _ _ (Only.refl _ _) rfl (fun h => absurd h (by show ¬ ((6 : Nat) = 16); decide)) (fun _ => ⟨id, fun _ => id⟩)
    · intro ra RW hR hO hk hd K hK
      obtain ⟨v13, e13, g13, f13⟩ := hd 6 13 (by kernel_rfl) rfl
      have f13 : v13 = .slice A (s.length) c := f13
      subst f13
      clear hk hd
      have HR := Lib.hid hR
      clear hR
      have HO := Lib.hid hO
      clear hO
      go_simp
      refine (clone_any A s.length c B0 s RW (HSR.out RW HR.out) (Nat.le_trans HB0.out HR.out.size) (by omega)).mono ?_
      rintro e1 w1 ⟨v, rfl, hown, hk1, hb1⟩
      obtain ⟨A', cc, rfl, -, -⟩ := hown.len_
      exact hK _ w1 ((Only.of_below hb1).mono (fun k hk h => absurd hk (by omega))) ⟨A', cc, rfl, hown, fun k hk => Nat.le_trans HR.out.size (hk1 k hk)⟩ (fun h => absurd h (by show ¬ ((7 : Nat) = 16); decide)) (fun _ => ⟨fun h => h.below hb1 (fun k hk => h.lt hk), fun v ⟨g, o, c', A', cc, e, h1, h2, h3⟩ => ⟨g, o, c', A', cc, e, h1.below hb1 (fun k hk => h1.lt hk), h2.below hb1, h3⟩⟩)
    · intro ra RW hR hO hk hd K hK
      obtain ⟨e0, g0⟩ := hk 0 (.pointer (some ⟨m, 0, none⟩)) (by kernel_rfl) rfl
      clear hk hd
      have HR := Lib.hid hR
      clear hR
      have HO := Lib.hid hO
      clear hO
      go_simp
      exact hK _ _ (Only.refl _ _) rfl (fun h => absurd h (by show ¬ ((8 : Nat) = 16); decide)) (fun _ => ⟨id, fun _ => id⟩)
    · intro ra RW hR hO hk hd K hK
      obtain ⟨v15, e15, g15, f15⟩ := hd 8 15 (by kernel_rfl) rfl
      have f15 : v15 = .pointer (some ⟨m, 0, none⟩) := f15
      subst f15
      clear hk hd
      have HR := Lib.hid hR
      clear hR
      have HO := Lib.hid hO
      clear hO
      go_simp
      exact hK _ _ (Only.refl _ _) rfl (fun h => absurd h (by show ¬ ((9 : Nat) = 16); decide)) (fun _ => ⟨id, fun _ => id⟩)
    · intro ra RW hR hO hk hd K hK
      obtain ⟨v16, e16, g16, f16⟩ := hd 9 16 (by kernel_rfl) rfl
      have f16 : v16 = .pointer (some ⟨m, 0, none⟩) := f16
      subst f16
      clear hk hd
      have HR := Lib.hid hR
      clear hR
      have HO := Lib.hid hO
      clear hO
      go_simp
      exact hK _ _ (Only.refl _ _) rfl (fun h => absurd h (by show ¬ ((10 : Nat) = 16); decide)) (fun _ => ⟨id, fun _ => id⟩)
    · intro ra RW hR hO hk hd K hK
      obtain ⟨v17, e17, g17, f17⟩ := hd 10 17 (by kernel_rfl) rfl
      have f17 : v17 = .pointer (some ⟨m, 0, none⟩) := f17
      subst f17
      clear hk hd
      have HR := Lib.hid hR
      clear hR
      have HO := Lib.hid hO
      clear hO
      have dd0 := (HR.out.cell (p := ⟨m, 0, none⟩) hml HNS.out).trans y0
      go_simp
      exact hK _ _ (Only.refl _ _) rfl (fun h => absurd h (by show ¬ ((11 : Nat) = 16); decide)) (fun _ => ⟨id, fun _ => id⟩)
    · intro ra RW hR hO hk hd K hK
      obtain ⟨v18, e18, g18, f18⟩ := hd 11 18 (by kernel_rfl) rfl
      have f18 : v18 = .slice As n cs := f18
      subst f18
      clear hk hd
      have HR := Lib.hid hR
      clear hR
      have HO := Lib.hid hO
      clear hO
      go_simp
      exact hK _ _ (Only.refl _ _) rfl (fun h => absurd h (by show ¬ ((12 : Nat) = 16); decide)) (fun _ => ⟨id, fun _ => id⟩)
    · intro ra RW hR hO hk hd K hK
      obtain ⟨v19, e19, g19, f19⟩ := hd 12 19 (by kernel_rfl) rfl
      have f19 : v19 = .int .i64 (n : Int) := f19
      subst f19
      clear hk hd
      have HR := Lib.hid hR
      clear hR
      have HO := Lib.hid hO
      clear hO
      go_simp
      have hwr := HWR.out
      rw [hwr]
      exact hK _ _ (Only.refl _ _) rfl (fun h => absurd h (by show ¬ ((13 : Nat) = 16); decide)) (fun _ => ⟨id, fun _ => id⟩)
    · intro ra RW hR hO hk hd K hK
      obtain ⟨v12, e12, g12, f12⟩ := hd 5 12 (by kernel_rfl) rfl
      have f12 : v12 = .int .i64 op := f12
      subst f12
      obtain ⟨v14, e14, g14, f14⟩ := hd 7 14 (by kernel_rfl) rfl
      have F14 := Lib.hid f14
      clear f14
      obtain ⟨v20, e20, g20, f20⟩ := hd 13 20 (by kernel_rfl) rfl
      have f20 : v20 = .int .i64 ((n : Int) + 1) := f20
      subst f20
      clear hk hd
      have HR := Lib.hid hR
      clear hR
      have HO := Lib.hid hO
      clear hO
      obtain ⟨A', cc, rfl, hs1, hs2⟩ := F14.out
      have HS1 := Lib.hid hs1
      have HS2 := Lib.hid hs2
      clear hs1 hs2 F14
      go_simp
      exact hK _ _ (Only.refl _ _) ⟨A', cc, rfl, HS1.out, HS2.out⟩ (fun h => absurd h (by show ¬ ((14 : Nat) = 16); decide)) (fun _ => ⟨id, fun _ => id⟩)
    · intro ra RW hR hO hk hd K hK
      obtain ⟨v21, e21, g21, f21⟩ := hd 14 21 (by kernel_rfl) rfl
      have F21 := Lib.hid f21
      clear f21
      clear hk hd
      have HR := Lib.hid hR
      clear hR
      have HO := Lib.hid hO
      clear hO
      obtain ⟨A', cc, rfl, hs1, hs2⟩ := F21.out
      have HS1 := Lib.hid hs1
      have HS2 := Lib.hid hs2
      clear hs1 hs2 F21
      go_simp
      have hba := below_al (Below.refl _ RW) (.cells #[.int .i64 op, .slice A' s.length cc, .int .i64 ((n : Int) + 1), .int .i64 0] 48)
      exact hK _ _ ((Only.refl _ RW).alloc _) (insRow2_mk HWS.out RW HR.out.size HS1.out HS2.out) (fun h => absurd h (by show ¬ ((15 : Nat) = 16); decide)) (fun _ => ⟨fun h => h.below hba (fun k hk => h.lt hk), fun v ⟨g, o, c', A', cc, e, h1, h2, h3⟩ => ⟨g, o, c', A', cc, e, h1.below hba (fun k hk => h1.lt hk), h2.below hba, h3⟩⟩)
    · intro ra RW hR hO hk hd K hK
      obtain ⟨v11, e11, g11, f11⟩ := hd 4 11 (by kernel_rfl) rfl
      have f11 : v11 = .slice As n cs := f11
      subst f11
      obtain ⟨v22, e22, g22, f22⟩ := hd 15 22 (by kernel_rfl) rfl
      have F22 := Lib.hid f22
      clear f22
      clear hk hd
      have HR := Lib.hid hR
      clear hR
      have HO := Lib.hid hO
      clear hO
      obtain ⟨g2, A', cc, rfl, hg2, hb2, hs1, hs2⟩ := F22.out
      have hpre := HO.out rfl
      refine step_append_mine RW rfl (.tmp 11) (.tmp 22) _ rfl 48 i0 _ 4 48 Try.underlying23 hi0 hz0 hz1 hz2 rfl (by omega) (.slice As n cs) n XS (by exact g11) hpre ⟨g2, 0, none⟩ 1 1 [.int .i64 op, .slice A' s.length cc, .int .i64 ((n : Int) + 1), .int .i64 0] (by exact g22) rfl (by exact World.news_of_block hb2) (by simp [Value.oneCell']) (by omega) (by simp only [maxLen]; omega) (by omega) _ rfl ?_
      intro g5 o5 c5 w5 hown5 hgrow5 hat5
      exact hK _ w5 ((Only.refl _ RW).grown hgrow5 (fun k hk _ => hk)) trivial (fun _ => ⟨g5, o5, c5, A', cc, rfl, hown5, Own.grown hs1 hgrow5 (fun k hk e => own_ne_ hs1 hpre (by decide) hk e), hat5.elim .inl (fun h => .inr (by rw [h]; exact HR.out.size))⟩) (fun h => absurd rfl h)
    · intro ra RW hR hO hk hd K hK
      obtain ⟨v7, e7, g7, f7⟩ := hd 0 7 (by kernel_rfl) rfl
      have f7 : v7 = .pointer (some ⟨m, 0, none⟩) := f7
      subst f7
      clear hk hd
      have HR := Lib.hid hR
      clear hR
      have HO := Lib.hid hO
      clear hO
      go_simp
      exact hK _ _ (Only.refl _ _) rfl (fun h => absurd h (by show ¬ ((17 : Nat) = 16); decide)) (fun _ => ⟨id, fun _ => id⟩)
    · intro ra RW hR hO hk hd K hK
      obtain ⟨v24, e24, g24, f24⟩ := hd 17 24 (by kernel_rfl) rfl
      have f24 : v24 = .pointer (some ⟨m, 0, none⟩) := f24
      subst f24
      clear hk hd
      have HR := Lib.hid hR
      clear hR
      have HO := Lib.hid hO
      clear hO
      go_simp
      exact hK _ _ (Only.refl _ _) rfl (fun h => absurd h (by show ¬ ((18 : Nat) = 16); decide)) (fun _ => ⟨id, fun _ => id⟩)
  intro vs RW hR hPO hF
  have q0 : vs 0 = .pointer (some ⟨m, 0, none⟩) := hF 0 (by decide)
  have q1 : vs 1 = .pointer (some ⟨m, 0, none⟩) := hF 1 (by decide)
  have q2 : vs 2 = .pointer (some ⟨m, 0, none⟩) := hF 2 (by decide)
  have q3 : vs 3 = .pointer (some ⟨m, 0, none⟩) := hF 3 (by decide)
  have q4 : vs 4 = .slice As n cs := hF 4 (by decide)
  have q5 : vs 5 = .int .i64 op := hF 5 (by decide)
  have q6 : vs 6 = .slice A (s.length) c := hF 6 (by decide)
  have F14 := Lib.hid (hF 7 (by decide))
  have q8 : vs 8 = .pointer (some ⟨m, 0, none⟩) := hF 8 (by decide)
  have q9 : vs 9 = .pointer (some ⟨m, 0, none⟩) := hF 9 (by decide)
  have q10 : vs 10 = .pointer (some ⟨m, 0, none⟩) := hF 10 (by decide)
  have q11 : vs 11 = .slice As n cs := hF 11 (by decide)
  have q12 : vs 12 = .int .i64 (n : Int) := hF 12 (by decide)
  have q13 : vs 13 = .int .i64 ((n : Int) + 1) := hF 13 (by decide)
  have F21 := Lib.hid (hF 14 (by decide))
  have F22 := Lib.hid (hF 15 (by decide))
  have F23 := Lib.hid (hF 16 (by decide))
  have q17 : vs 17 = .pointer (some ⟨m, 0, none⟩) := hF 17 (by decide)
  have q18 : vs 18 = .pointer (some ⟨m, 0, none⟩) := hF 18 (by decide)
  simp only [List.take_succ_cons, List.take_zero, List.drop_succ_cons, List.drop_zero, setAll, List.setIfInBounds_toArray, List.set_cons_zero, List.set_cons_succ, q0, q1, q2, q3, q4, q5, q6, q8, q9, q10, q11, q12, q13, q17, q18]
  clear hF q0 q1 q2 q3 q4 q5 q6 q8 q9 q10 q11 q12 q13 q17 q18
  generalize vs 7 = v14 at *
  generalize vs 14 = v21 at *
  generalize vs 15 = v22 at *
  generalize vs 16 = v23 at *
  clear vs
  obtain ⟨g5, o5, c5, A5, cc5, hv5, ho5, hs5, hg5⟩ := hPO
  have HOW : Hid (Only (fun k => (Value.slice As n cs).ownBlock = some k) w RW) := ⟨hR.os, hR.tape, hR.output, hR.size, hR.block⟩
  obtain ⟨hmk, hfr⟩ := HPUSH.out RW g5 o5 c5 A5 cc5 HOW.out ho5 hs5 hg5
  have HMK := Lib.hid hmk
  have HFR := Lib.hid hfr
  have HBKR := Lib.hid (HBK.out.only HOW.out HNS.out)
  subst hv5
  clear hR ho5 hs5 hg5 hmk hfr F14 F21 F22 F23
  have z0 := HBKR.out.cell 0
  have z1 := HBKR.out.frozen 0
  have hmr := HBKR.out.lt
  simp only [List.getElem?_toArray, List.getElem?_cons_zero] at z0
  go_wp2_with fail
  go_ret
  exact ⟨rfl, HMK.out, HFR.out⟩
end Go.Proofs.Ytjfkppbfckgckaa
namespace Go.Proofs.Ytjfkppbfckgckaa
set_option maxRecDepth 20000
open Go.RowKit Go.Rb
attribute [local irreducible] Go.wpQuiet

theorem rd_set {w W : World} {A : Option Addr} {c : Nat} {s : List (Int × Int)} (h : SetV w (.slice A s.length c) s) (h' : SetV W (.slice A s.length c) s) : Rd W w.heap.size 2 A s.length (flat s) := by
  have r := Own.rd h
  have r' := Own.rd h'
  refine ⟨r'.1, fun h0 => ?_⟩
  obtain ⟨b, off, hA, hb, -⟩ := r.2 h0
  obtain ⟨b', off', hA', -, hc'⟩ := r'.2 h0
  subst hA
  simp only [Option.some.injEq, Addr.mk.injEq, and_true] at hA'
  obtain ⟨rfl, rfl⟩ := hA'
  exact ⟨b, off, rfl, hb, hc'⟩
theorem put_set {B m c : Nat} {A : Option Addr} {op : Int} {s : List (Int × Int)} {ps : List Ins} {w : World} (hM : Mk B w m ps) (hset : SetV w (.slice A s.length c) s) (hs : s.length ≤ 1000) (hps : ps.length ≤ 5000) :
    Calls Try.prog 55 #[.pointer (some ⟨m, 0, none⟩), .int .i64 op, .slice A s.length c] w fun e w' => e = .returned (.int .i64 (ps.length : Int)) ∧ Mk B w' m (ps ++ [⟨op, s, (ps.length : Int) + 1, 0⟩]) ∧ Fr B w w' := by
  refine put_any hM (rd_set hset hset) (Nat.le_refl _) hs hps ?_
  rintro W ⟨h0, sl, svs, h1, h2, h3, h4, h5⟩ ⟨sl', h1', hW⟩
  unfold Blk at h1 h1'
  rw [h1] at h1'
  simp only [Option.some.injEq, Obj.cells.injEq, and_true, Array.mk.injEq, List.cons.injEq] at h1'
  subst h1'
  exact rd_set hset (Own.only hset hW fun k hk e => own_ne_ hset h4 (by decide) hk e)
/-- A program under way, its slice's place told. -/
structure MkA (B : Nat) (w : World) (m g off c : Nat) (svs : List Value) (ps : List Ins) : Prop where
  h0 : B ≤ m
  h1 : Blk w m 81 #[.slice (some ⟨g, off, none⟩) ps.length c]
  h2 : B ≤ g
  h3 : svs.length = ps.length
  h4 : Own w 48 4 (.slice (some ⟨g, off, none⟩) ps.length c) ps.length (insRow ps svs)
  h5 : ∀ (i : Nat) (t : Ins), ps[i]? = some t → ∃ sv, svs[i]? = some sv ∧ SetV w sv t.set
theorem Mk.form {B m : Nat} {w : World} {ps : List Ins} (h : Mk B w m ps) (hn : 0 < ps.length) : ∃ g off c svs, MkA B w m g off c svs ps ∧ ps.length ≤ c := by
  obtain ⟨h0, sl, svs, h1, h2, h3, h4, h5⟩ := h
  obtain ⟨g, off, c, rfl, hc, -⟩ := h4.form hn
  exact ⟨g, off, c, svs, ⟨h0, h1, h2 g rfl, h3, h4, h5⟩, hc⟩
theorem MkA.mk_ {B m g off c : Nat} {w : World} {svs : List Value} {ps : List Ins} (h : MkA B w m g off c svs ps) : Mk B w m ps :=
  ⟨h.h0, _, svs, h.h1, fun k hk => by obtain rfl : g = k := (by simpa [Value.ownBlock] using hk); exact h.h2, h.h3, h.h4, h.h5⟩
theorem MkA.ne {B m g off c : Nat} {w : World} {svs : List Value} {ps : List Ins} (h : MkA B w m g off c svs ps) : g ≠ m := fun e => own_ne_blk_ h.h4 h.h1 (by decide) (by simp [Value.ownBlock, e])
/-- What of it is there: cells and places. -/
theorem MkA.cells {B m g off c : Nat} {w : World} {svs : List Value} {ps : List Ins} (h : MkA B w m g off c svs ps) (i : Nat) (hi : i < ps.length) : w.cell? ⟨m, 0, none⟩ = some (.slice (some ⟨g, off, none⟩) ps.length c) ∧ w.frozen? ⟨m, 0, none⟩ = false ∧ m < w.heap.size ∧ g < w.heap.size ∧
    (∃ u, w.cell? ⟨g, off + i * 4 + 2, none⟩ = some u) ∧ (∃ u, w.cell? ⟨g, off + i * 4 + 3, none⟩ = some u) ∧ w.frozen? ⟨g, off + i * 4 + 2, none⟩ = false ∧ w.frozen? ⟨g, off + i * 4 + 3, none⟩ = false := by
  obtain ⟨g', off', c', e, hc, -, hgl, hcell, hfz⟩ := h.h4.form (by omega)
  simp only [Value.slice.injEq, Option.some.injEq, Addr.mk.injEq, true_and, and_true] at e
  obtain ⟨⟨rfl, rfl⟩, rfl⟩ := e
  have hrl := insRow_len _ _ h.h3
  have y0 := h.h1.cell 0
  simp only [List.getElem?_toArray, List.getElem?_cons_zero] at y0
  exact ⟨y0, h.h1.frozen 0, h.h1.lt, hgl, ⟨_, by rw [Nat.add_assoc, hcell (i * 4 + 2) (by omega)]; exact List.getElem?_eq_getElem (by rw [hrl]; omega)⟩,
    ⟨_, by rw [Nat.add_assoc, hcell (i * 4 + 3) (by omega)]; exact List.getElem?_eq_getElem (by rw [hrl]; omega)⟩, hfz _, hfz _⟩
theorem MkA.set {B m g off c i j : Nat} {w : World} {ps ps' : List Ins} {svs : List Value} {u : Value} (h : MkA B w m g off c svs ps)
    (hj : i * 4 + j < ps.length * 4) (hrow : (insRow ps svs).set (i * 4 + j) u = insRow ps' svs) (hlen : ps'.length = ps.length) (hset : ∀ (i : Nat) (t : Ins), ps'[i]? = some t → ∃ t', ps[i]? = some t' ∧ t'.set = t.set) :
    MkA B (w.setCell ⟨g, off + i * 4 + j, none⟩ u) m g off c svs ps' ∧ Fr B w (w.setCell ⟨g, off + i * 4 + j, none⟩ u) := by
  have hgm := h.ne
  obtain ⟨h0, h1, h2, h3, h4, h5⟩ := h
  have hfr : Fr B w (w.setCell ⟨g, off + i * 4 + j, none⟩ u) := by
    rcases h4.2 with ⟨e, _⟩ | ⟨g', off', cap, cur, e, hg, _⟩
    · simp at e
    · simp only [Value.slice.injEq, Option.some.injEq, Addr.mk.injEq, true_and, and_true] at e
      obtain ⟨⟨rfl, rfl⟩, rfl⟩ := e
      exact fr_set hg h2 (.inl rfl) _ _
  refine ⟨⟨h0, ?_, h2, by rw [h3, hlen], ?_, fun i1 t hi => ?_⟩, hfr⟩
  · rw [hlen]
    exact h1.far (fun e => hgm e.symm) u
  · rw [hlen, ← hrow, Nat.add_assoc]
    exact h4.store (i * 4 + j) hj u
  · obtain ⟨t', ht', e⟩ := hset i1 t hi
    obtain ⟨sv, e1, hs⟩ := h5 i1 t' ht'
    refine ⟨sv, e1, ?_⟩
    rw [← e]
    exact SetV.fr hs hfr
theorem MkA.y {B m g off c i : Nat} {w : World} {ps : List Ins} {svs : List Value} (h : MkA B w m g off c svs ps) (hi : i < ps.length) (v : Int) : MkA B (w.setCell ⟨g, off + i * 4 + 3, none⟩ (.int .i64 v)) m g off c svs (ps.modify i (setY v)) ∧ Fr B w (w.setCell ⟨g, off + i * 4 + 3, none⟩ (.int .i64 v)) :=
  h.set (by omega) (insRow_y _ _ h.h3 i hi v) (by simp) (modify_set fun _ => rfl)
theorem MkA.xy {B m g off c i : Nat} {w : World} {ps : List Ins} {svs : List Value} (h : MkA B w m g off c svs ps) (hi : i < ps.length) (u v : Int) :
    MkA B ((w.setCell ⟨g, off + i * 4 + 2, none⟩ (.int .i64 u)).setCell ⟨g, off + i * 4 + 3, none⟩ (.int .i64 v)) m g off c svs ((ps.modify i (setX u)).modify i (setY v)) ∧ Fr B w ((w.setCell ⟨g, off + i * 4 + 2, none⟩ (.int .i64 u)).setCell ⟨g, off + i * 4 + 3, none⟩ (.int .i64 v)) := by
  obtain ⟨h1, f1⟩ := h.set (i := i) (j := 2) (u := .int .i64 u) (by omega) (insRow_x _ _ h.h3 i hi u) (by simp) (modify_set fun _ => rfl)
  obtain ⟨h2, f2⟩ := h1.y (i := i) (by simpa using hi) v
  exact ⟨h2, f1.trans f2⟩
theorem Fr.drew_ {B : Nat} {w w' : World} (h : Fr B w w') : Fr B w w'.drew := ⟨h.below.drew, fun k cs t hb h1 h2 => h.keep k cs t hb h1 h2⟩
def splitP (ps : List Ins) : List Ins := ps ++ [⟨2, [], (ps.length : Int) + 1, 0⟩]
def jumpP (to : Int) (ps : List Ins) : List Ins := ((splitP ps).modify ps.length (setX to)).modify ps.length (setY to)
theorem split_len (ps : List Ins) : (splitP ps).length = ps.length + 1 := by simp [splitP]
theorem jump_len (to : Int) (ps : List Ins) : (jumpP to ps).length = ps.length + 1 := by simp [jumpP, splitP]
set_option maxHeartbeats 400000 in
theorem split_any {B m : Nat} {ps : List Ins} {w : World} (hM : Mk B w m ps) (hps : ps.length ≤ 5000) :
    Calls Try.prog 69 #[.pointer (some ⟨m, 0, none⟩)] w fun e w' => e = .returned (.int .i64 (ps.length : Int)) ∧ Mk B w' m (splitP ps) ∧ Fr B w w' := by
  have HP := Lib.hid (put_set (op := 2) hM (SetV.nil_ w) (by simp) hps)
  clear hM
  go_enter Try.func69, Try.ntmps69
  go_wp2_with fail
  refine HP.out.mono ?_
  rintro e1 w1 ⟨rfl, hm, hf⟩
  have HM := Lib.hid hm
  have HF := Lib.hid hf
  clear hm hf
  go_wp2_with fail
  go_ret
  exact ⟨rfl, HM.out, HF.out⟩
set_option maxRecDepth 20000 in
set_option maxHeartbeats 1000000 in
theorem jump_any {B m : Nat} {to : Int} {ps : List Ins} {w : World} (hM : Mk B w m ps) (hps : ps.length ≤ 4999) :
    Calls Try.prog 70 #[.pointer (some ⟨m, 0, none⟩), .int .i64 to] w fun e w' => e = .returned (.int .i64 (ps.length : Int)) ∧ Mk B w' m (jumpP to ps) ∧ Fr B w w' := by
  have HP := Lib.hid (split_any hM (by omega))
  obtain ⟨n, hn⟩ : ∃ n, ps.length = n := ⟨_, rfl⟩
  have HN := Lib.hid hn
  rw [hn] at HP hps ⊢
  clear hM hn
  go_enter Try.func70, Try.ntmps70
  go_wp2_with fail
  refine HP.out.mono ?_
  rintro e1 w1 ⟨rfl, hm, hf⟩
  have HM := Lib.hid hm
  have HF := Lib.hid hf
  have hl1 : (splitP ps).length = n + 1 := by rw [split_len, HN.out]
  obtain ⟨g, off, c, svs, hA, hc⟩ := hm.form (by omega)
  obtain ⟨y0, z0, hml, hgl, ⟨u2, c2⟩, ⟨u3, c3⟩, f2, f3⟩ := hA.cells n (by omega)
  have hgm := hA.ne
  obtain ⟨hA2, hF2⟩ := hA.xy (i := n) (by omega) to to
  have HA2 := Lib.hid (hA2.mk_.under (Below.refl _ _).drew)
  have HF2 := Lib.hid (hf.trans hF2)
  rw [hl1] at y0 hc
  have hnc : n < n + 1 := by omega
  have HJ : Hid (jumpP to ps = ((splitP ps).modify n (setX to)).modify n (setY to)) := by show _ = _; rw [jumpP, HN.out]
  clear hm hf HP hA hA2 hF2 hl1
  go_upto_region 2 with fail
  go_region
  go_wp2_with fail
  go_ret
  exact ⟨rfl, by rw [HJ.out]; exact HA2.out, HF2.out.drew_⟩
end Go.Proofs.Ytjfkppbfckgckaa
namespace Go.Proofs.Ytjfkppbfckgckaa
set_option maxRecDepth 20000
open Go.RowKit Go.Rb
attribute [local irreducible] Go.wpQuiet

def iterP (f : List Ins → List Ins) : Nat → List Ins → List Ins
  | 0, ps => ps
  | k + 1, ps => iterP f k (f ps)
theorem iterP_succ (f : List Ins → List Ins) (k : Nat) : ∀ ps, iterP f (k + 1) ps = f (iterP f k ps) := by
  induction k with
  | zero => intro ps; rfl
  | succ k ih => intro ps; rw [iterP, ih (f ps)]; rfl
/-- What may be there, so many times: the program, and the splits. -/
def manyP (f : List Ins → List Ins) : Nat → List Ins → List Nat → List Ins × List Nat
  | 0, ps, ss => (ps, ss)
  | k + 1, ps, ss => manyP f k (f (splitP ps)) (ss ++ [ps.length])
def endY (q : List Ins) (ss : List Nat) : List Ins := ss.foldl (fun r s => r.modify s (setY (r.length : Int))) q
def endXY (q : List Ins) (ss : List Nat) : List Ins := ss.foldl (fun r s => (r.modify s (setX (r.length : Int))).modify s (setY (r.length : Int))) q
def starP (f : List Ins → List Ins) (ps : List Ins) : List Ins := (jumpP (ps.length : Int) (f (splitP ps))).modify ps.length (setY ((jumpP (ps.length : Int) (f (splitP ps))).length : Int))
def repP (f : List Ins → List Ins) (mn mx : Int) (ps : List Ins) : List Ins :=
  if mx < 0 then starP f (iterP f mn.toNat ps) else endY (manyP f (mx - mn).toNat (iterP f mn.toNat ps) []).1 (manyP f (mx - mn).toNat (iterP f mn.toNat ps) []).2
/-- One alternative, with a split ahead and a jump behind. -/
def oneAlt (f : List Ins → List Ins) (ps : List Ins) : List Ins := (jumpP 0 (f (splitP ps))).modify ps.length (setY ((jumpP 0 (f (splitP ps))).length : Int))
mutual
def nodeP : Nd → List Ins → List Ins
  | .mk op set mn mx kids, ps =>
    if op = 1 then ps ++ [⟨1, set, (ps.length : Int) + 1, 0⟩] else if op = 2 then ps ++ [⟨3, [], (ps.length : Int) + 1, 0⟩] else if op = 3 then ps ++ [⟨4, [], (ps.length : Int) + 1, 0⟩]
    else if op = 4 then nodesP kids ps else if op = 5 then endXY (altP kids ps []).1 (altP kids ps []).2 else if op = 6 then repP (fun q => headP kids q) mn mx ps else ps
def nodesP : List Nd → List Ins → List Ins
  | [], ps => ps
  | k :: ks, ps => nodesP ks (nodeP k ps)
def headP : List Nd → List Ins → List Ins
  | [], ps => ps
  | k :: _, ps => nodeP k ps
def altP : List Nd → List Ins → List Nat → List Ins × List Nat
  | [], ps, es => (ps, es)
  | k :: ks, ps, es => if ks.isEmpty then (nodeP k ps, es) else altP ks (oneAlt (fun q => nodeP k q) ps) (es ++ [(nodeP k (splitP ps)).length])
end
/-! ### Lengths -/
def Grows (f : List Ins → List Ins) : Prop := ∀ ps, ps.length ≤ (f ps).length
theorem iterP_grows {f : List Ins → List Ins} (hf : Grows f) : ∀ k, Grows (iterP f k)
  | 0, ps => Nat.le_refl _
  | k + 1, ps => Nat.le_trans (hf ps) (iterP_grows hf k (f ps))
theorem iterP_le {f : List Ins → List Ins} (hf : Grows f) (ps : List Ins) {i k : Nat} (h : i ≤ k) : (iterP f i ps).length ≤ (iterP f k ps).length := by
  induction h with
  | refl => exact Nat.le_refl _
  | step h ih => rw [iterP_succ]; exact Nat.le_trans ih (hf _)
theorem endY_len (ss : List Nat) : ∀ q, (endY q ss).length = q.length := by
  induction ss with
  | nil => intro q; rfl
  | cons s ss ih => intro q; rw [endY, List.foldl_cons, ← endY, ih]; simp
theorem endXY_len (ss : List Nat) : ∀ q, (endXY q ss).length = q.length := by
  induction ss with
  | nil => intro q; rfl
  | cons s ss ih => intro q; rw [endXY, List.foldl_cons, ← endXY, ih]; simp
theorem manyP_grows {f : List Ins → List Ins} (hf : Grows f) : ∀ k ps ss, ps.length ≤ (manyP f k ps ss).1.length
  | 0, ps, ss => Nat.le_refl _
  | k + 1, ps, ss => by
    rw [manyP]
    have h1 := hf (splitP ps)
    have h2 := manyP_grows hf k (f (splitP ps)) (ss ++ [ps.length])
    rw [split_len] at h1
    omega
theorem starP_len {f : List Ins → List Ins} (ps : List Ins) : (starP f ps).length = (f (splitP ps)).length + 1 := by rw [starP, List.length_modify, jump_len]
theorem oneAlt_len {f : List Ins → List Ins} (ps : List Ins) : (oneAlt f ps).length = (f (splitP ps)).length + 1 := by rw [oneAlt, List.length_modify, jump_len]
theorem repP_grows {f : List Ins → List Ins} (hf : Grows f) (mn mx : Int) : Grows (repP f mn mx) := by
  intro ps
  have h1 := iterP_grows hf mn.toNat ps
  rw [repP]
  split
  · rw [starP_len]
    have := hf (splitP (iterP f mn.toNat ps))
    rw [split_len] at this
    omega
  · rw [endY_len]
    exact Nat.le_trans h1 (manyP_grows hf _ _ _)
theorem nodesP_grows {kids : List Nd} (h : ∀ k ∈ kids, Grows (nodeP k)) : Grows (nodesP kids) := by
  induction kids with
  | nil => intro ps; exact Nat.le_refl _
  | cons k ks ih =>
    intro ps
    rw [nodesP]
    exact Nat.le_trans (h k (by simp) ps) (ih (fun k hk => h k (by simp [hk])) _)
theorem altP_grows {kids : List Nd} (h : ∀ k ∈ kids, Grows (nodeP k)) : ∀ ps es, ps.length ≤ (altP kids ps es).1.length := by
  induction kids with
  | nil => intro ps es; exact Nat.le_refl _
  | cons k ks ih =>
    intro ps es
    have hk := h k (by simp)
    rw [altP]
    split
    · exact hk ps
    · refine Nat.le_trans ?_ (ih (fun k hk => h k (by simp [hk])) _ _)
      rw [oneAlt_len]
      have := hk (splitP ps)
      rw [split_len] at this
      omega
theorem nodeP_grows {n : Nd} (hok : OkN n) : Grows (nodeP n) := by
  induction hok with
  | mk op mn mx set kids h0 h6 h5 hl hs hk ih =>
    intro ps
    rw [nodeP]
    split
    · simp
    split
    · simp
    split
    · simp
    split
    · exact nodesP_grows ih ps
    split
    · rw [endXY_len]; exact altP_grows ih ps []
    split
    · refine repP_grows ?_ mn mx ps
      intro q
      cases kids with
      | nil => exact Nat.le_refl _
      | cons k ks => exact ih k (by simp) q
    · exact Nat.le_refl _
/-- What node does. -/
def NodeC (n : Nd) : Prop := ∀ (B m : Nat) (w : World) (S : Nat → Prop) (v : Value) (ps : List Ins), Mk B w m ps → B ≤ w.heap.size → NdV w S v n → (nodeP n ps).length ≤ 4000 →
  Calls Try.prog 40 #[.pointer (some ⟨m, 0, none⟩), v] w fun e w' => e = .returned (.tuple #[]) ∧ Mk B w' m (nodeP n ps) ∧ Fr B w w'
end Go.Proofs.Ytjfkppbfckgckaa
