/-
  the contract of reedbedref09.Made; no condition beyond those that each theorem states.
-/
import Derived.Test.YtjfkppbfckgckaaG15
import Derived.Test.YtjfkppbfckgckaaG14
set_option linter.unusedVariables false
set_option linter.unusedSimpArgs false
namespace Go.Rb
open Go.RowKit
theorem rd_head {P : Program} {w : World} {B sz n c : Nat} {A : Option Addr} {xs : List Value} (t : TypeId) (ht : P.underlying t = some (.slice (P.elem t))) (hs : ∀ W, (sizeOf (P.elem t)).run P W = .ok sz W)
    (h : Rd w B sz A n xs) (hnc : n ≤ c) (k : Nat) (hk : k ≤ n) :
    ∃ A' c', (∀ W, (Instr.slice t (.slice A n c) none (some (.int .i64 (k : Int))) none).run P W = .ok (.slice A' k c') W) ∧ Rd w B sz A' k (xs.take (k * sz)) ∧ k ≤ c' := by
  have hrun : ∀ W, (Instr.slice t (.slice A n c) none (some (.int .i64 (k : Int))) none).run P W = .ok (sliced A 0 k c sz) W := fun W => by
    rw [run_slice_h (P := P) W t A n c ht .i64 (k : Int) (by omega) (by omega), hs W]
    simp [Result.andThen]
  have hd := h.take_ hk
  cases A with
  | none =>
    refine ⟨none, c, fun W => (hrun W).trans ?_, ⟨hd.1, fun h0 => ?_⟩, by omega⟩
    · simp [sliced]
    · obtain ⟨b, off, e, -⟩ := hd.2 h0
      simp at e
  | some a =>
    refine ⟨some (if c = 0 then a else a.add 0), c, fun W => (hrun W).trans ?_, ⟨hd.1, fun h0 => ?_⟩, by omega⟩
    · simp [sliced]
      split <;> rfl
    · obtain ⟨b, off, e, h1, h2⟩ := hd.2 h0
      refine ⟨b, off, ?_, h1, h2⟩
      rw [← e]
      split <;> simp [Addr.add]
end Go.Rb
namespace Go.Proofs.Ytjfkppbfckgckaa
set_option maxRecDepth 20000
open Go.RowKit Go.Rb
attribute [local irreducible] Go.wpQuiet

/-! ### The ends, each once, in order -/
def posE (l : List Int) (e : Int) : Nat := (l.takeWhile fun x => decide (x < e)).length
theorem posE_of {e : Int} : ∀ {l : List Int} {k : Nat}, k ≤ l.length → (∀ (j : Nat) (x : Int), j < k → l[j]? = some x → x < e) → (∀ x, l[k]? = some x → ¬ x < e) → posE l e = k
  | [], k, hk, h1, h2 => by simp at hk; subst hk; rfl
  | a :: l, 0, hk, h1, h2 => by
    have := h2 a rfl
    unfold posE
    rw [List.takeWhile_cons, if_neg (by simpa using this)]
    rfl
  | a :: l, k + 1, hk, h1, h2 => by
    have h0 := h1 0 a (by omega) rfl
    have ih := posE_of (e := e) (l := l) (k := k) (by simpa using hk) (fun j x hj hx => h1 (j + 1) x (by omega) hx) (fun x hx => h2 x hx)
    unfold posE at ih ⊢
    rw [List.takeWhile_cons, if_pos (by simpa using h0), List.length_cons, ih]
def insE (l : List Int) (e : Int) : List Int := if l[posE l e]? = some e then l else l.take (posE l e) ++ [e] ++ l.drop (posE l e)
def distE (es : List Int) : List Int := es.foldl insE []
theorem distE_take {es : List Int} {i : Nat} {e : Int} (hi : es[i]? = some e) : distE (es.take (i + 1)) = insE (distE (es.take i)) e := by
  unfold distE
  rw [List.take_add_one, hi, List.foldl_append]
  rfl
theorem insE_len (l : List Int) (e : Int) : (insE l e).length ≤ l.length + 1 := by
  unfold insE
  split
  · omega
  · simp; omega
theorem insE_mem {l : List Int} {e x : Int} (h : x ∈ insE l e) : x ∈ l ∨ x = e := by
  unfold insE at h
  split at h
  · exact .inl h
  · rcases List.mem_append.1 h with h | h
    · rcases List.mem_append.1 h with h | h
      · exact .inl (List.mem_of_mem_take h)
      · exact .inr (by simpa using h)
    · exact .inl (List.mem_of_mem_drop h)
theorem distE_prop (es : List Int) : (distE es).length ≤ es.length ∧ ∀ x ∈ distE es, x ∈ es := by
  have key : ∀ (es l : List Int), (es.foldl insE l).length ≤ l.length + es.length ∧ ∀ x ∈ es.foldl insE l, x ∈ l ∨ x ∈ es := by
    intro es
    induction es with
    | nil => intro l; exact ⟨by simp, fun x h => .inl h⟩
    | cons e es ih =>
      intro l
      obtain ⟨h1, h2⟩ := ih (insE l e)
      have h3 := insE_len l e
      rw [List.foldl_cons]
      refine ⟨by simp only [List.length_cons]; omega, fun x hx => ?_⟩
      rcases h2 x hx with h | h
      · rcases insE_mem h with h | rfl
        · exact .inl h
        · exact .inr (by simp)
      · exact .inr (by simp [h])
  obtain ⟨h1, h2⟩ := key es []
  exact ⟨by simpa [distE] using h1, fun x hx => (h2 x hx).resolve_left (by simp)⟩
theorem eD_bd {x d y : Int} (h : y ∈ eD x d) : 0 ≤ y ∧ y ≤ 1114111 := by
  unfold eD at h
  split at h
  · obtain rfl : y = _ := by simpa using h
    omega
  · simp at h
theorem eK_bd {x y : Int} : ∀ k, y ∈ eK x k → 0 ≤ y ∧ y ≤ 1114111
  | 0, h => by simp [eK] at h
  | k + 1, h => by
    rw [eK] at h
    rcases List.mem_append.1 h with h | h
    · exact eK_bd k h
    · exact eD_bd h
theorem e2_bd {q : Int × Int} {y : Int} : ∀ k, y ∈ e2 q k → 0 ≤ y ∧ y ≤ 1114111
  | 0, h => by simp [e2] at h
  | k + 1, h => by
    rw [e2] at h
    rcases List.mem_append.1 h with h | h
    · exact e2_bd k h
    · exact eK_bd 3 h
theorem endsF_bd {s : List (Int × Int)} {y : Int} (h : y ∈ endsF s) : 0 ≤ y ∧ y ≤ 1114111 := by
  unfold endsF at h
  rcases List.mem_append.1 h with h | h
  · rcases (by simpa using h : y = 0 ∨ y = 1114111) with rfl | rfl <;> decide
  · obtain ⟨q, -, h⟩ := List.mem_flatMap.1 h
    exact e2_bd 2 h
/-! ### The set between them -/
def joinF (s : List (Int × Int)) (nt : Bool) (a b : Int) : Bool := decide (b = a + 1) || (hasS s (a + 1) != nt)
def condO (s : List (Int × Int)) (nt : Bool) (l : List Int) (i : Nat) (x : Int) : Bool :=
  match l[i - 1]? with
  | none => false
  | some p => (hasS s p != nt) && joinF s nt p x
def stepO (s : List (Int × Int)) (nt : Bool) (l : List Int) (out : List (Int × Int)) (i : Nat) : List (Int × Int) :=
  match l[i]? with
  | none => out
  | some x => if hasS s x = nt then out else if 0 < out.length ∧ condO s nt l i x = true then out.modify (out.length - 1) (fun q => (q.1, x)) else out ++ [(x, x)]
def outF (s : List (Int × Int)) (nt : Bool) (l : List Int) : Nat → List (Int × Int)
  | 0 => []
  | k + 1 => stepO s nt l (outF s nt l k) k
def madeF (s : List (Int × Int)) (nt : Bool) : List (Int × Int) := outF s nt (distE (endsF s)) (distE (endsF s)).length
theorem outF_len (s : List (Int × Int)) (nt : Bool) (l : List Int) : ∀ k, (outF s nt l k).length ≤ k
  | 0 => by simp [outF]
  | k + 1 => by
    have ih := outF_len s nt l k
    rw [outF, stepO]
    split
    · omega
    · split
      · omega
      · split
        · rw [List.length_modify]; omega
        · rw [List.length_append]; simp; omega
theorem madeF_len (s : List (Int × Int)) (nt : Bool) : (madeF s nt).length ≤ 2 + 6 * s.length :=
  Nat.le_trans (outF_len _ _ _ _) (Nat.le_trans (distE_prop _).1 (endsF_len s))
set_option maxHeartbeats 1000000 in
theorem joined_any (s : List (Int × Int)) (a b : Int) (nt : Bool) (A : Option Addr) (n c B : Nat) (w : World) (hr : RgR w B A s) (hB : B ≤ w.heap.size) (hl : s.length = n) (hn : n ≤ 1000) (hc : n ≤ c) (h0 : 0 ≤ a) (h1 : a ≤ 1114111) :
    Calls Try.prog 74 #[.slice A n c, .int .i64 a, .int .i64 b, .bool nt] w fun e w' => e = .returned (.bool (joinF s nt a b)) ∧ w' = w := by
  have HH := Lib.hid (refHas_any s (a + 1) A n c B w hr hB hl hn hc)
  clear hr hB hl
  unfold joinF
  by_cases hb : b = a + 1
  · subst hb
    clear HH
    go_enter Try.func74, Try.ntmps74
    go_wp2_with fail
    go_ret
    exact ⟨by simp, rfl⟩
  · have hb1 : (b == a + 1) = false := by simpa using hb
    have hb2 : decide (b = a + 1) = false := by simpa using hb
    rw [hb2, Bool.false_or]
    obtain ⟨h, hh⟩ : ∃ h, hasS s (a + 1) = h := ⟨_, rfl⟩
    rw [hh] at HH ⊢
    clear hh hb hb2
    go_enter Try.func74, Try.ntmps74
    go_wp2_with fail
    refine HH.out.mono ?_
    rintro e1 w1 ⟨rfl, rfl⟩
    clear HH
    go_wp2_with fail
    go_ret
    exact ⟨by cases h <;> cases nt <;> rfl, rfl⟩
/-- What is behind a world, and a slice of numbers of the call's own. -/
def MdO (w1 : World) (l : List Int) (v : Value) (wr : World) : Prop := ZsO wr v l ∧ (∀ k, v.ownBlock = some k → w1.heap.size ≤ k) ∧ Below w1.heap.size w1 wr
def MdS (w1 : World) (s : List (Int × Int)) (v : Value) (wr : World) : Prop := SetV wr v s ∧ (∀ k, v.ownBlock = some k → w1.heap.size ≤ k) ∧ Below w1.heap.size w1 wr
theorem zs_of {w : World} {v : Value} {n : Nat} {xs : List Value} {zs : List Int} (h : Own w 3 1 v n xs) (hx : xs = zs.map iV) : ZsO w v zs := by
  subst hx
  have hn := h.1
  rw [List.length_map, Nat.mul_one] at hn
  subst hn
  exact h
theorem infoR : (Try.prog.info? 98).map (fun i => (i.zero, i.size, i.bytes)) = some (some (.agg #[.int .i64 0, .int .i64 0]), 2, 16) := by kernel_rfl
theorem iV_one (l : List Int) : ∀ u ∈ l.map iV, u.oneCell' = true := by
  intro u hu
  obtain ⟨z, -, rfl⟩ := List.mem_map.1 hu
  rfl
def Drw (w w' : World) : Prop := ∃ q, w' = w.drewN q
theorem Drw.refl (w : World) : Drw w w := ⟨0, rfl⟩
theorem Drw.more {w w' : World} (h : Drw w w') (n : Nat) : Drw w (w'.drewN n) := by
  obtain ⟨q, rfl⟩ := h
  exact ⟨q + n, by simp⟩
theorem Drw.cell {w w' : World} (h : Drw w w') {p : Addr} {v : Value} (hp : w.cell? p = some v) : w'.cell? p = some v := by
  obtain ⟨q, rfl⟩ := h
  exact hp
theorem Drw.size {w w' : World} (h : Drw w w') : w'.heap.size = w.heap.size := by
  obtain ⟨q, rfl⟩ := h
  rfl
theorem Drw.own {w w' : World} (h : Drw w w') {e : TypeId} {sz n : Nat} {v : Value} {xs : List Value} (ho : Own w e sz v n xs) : Own w' e sz v n xs := by
  obtain ⟨q, rfl⟩ := h
  exact ho.drewN q
theorem Drw.bel {w w' : World} (h : Drw w w') {a : World} {B : Nat} (hb : Below B a w) : Below B a w' := by
  obtain ⟨q, rfl⟩ := h
  exact below_drewN hb q
theorem rd_far {v v' : Value} {B H : Nat} (hk : ∀ k, v.ownBlock = some k → B ≤ k) (h : v'.ownBlock = v.ownBlock ∨ v'.ownBlock = some H) (hH : B ≤ H) : ∀ k, v'.ownBlock = some k → B ≤ k := by
  intro k e
  rcases h with h | h
  · exact hk k (h ▸ e)
  · rw [h] at e
    obtain rfl := Option.some.inj e
    exact hH
theorem insE_eq {l : List Int} {e : Int} {k : Nat} (hp : posE l e = k) (hne : l[k]? ≠ some e) : (insE l e).map iV = ((l.map iV).take k ++ [.int .i64 e]) ++ (l.map iV).drop k := by
  unfold insE
  rw [hp, if_neg hne, List.map_append, List.map_append, List.map_take, List.map_drop]
  rfl
theorem insE_old {l : List Int} {e : Int} {k : Nat} (hp : posE l e = k) (he : l[k]? = some e) : insE l e = l := by
  unfold insE
  rw [hp, if_pos he]
theorem flat_set {x : Int} : ∀ (O : List (Int × Int)) (m : Nat), m < O.length → (flat O).set (m * 2 + 1) (.int .i64 x) = flat (O.modify m fun q => (q.1, x))
  | [], m, h => by simp at h
  | q :: O, 0, h => by
    rw [List.modify_zero_cons]
    rfl
  | q :: O, m + 1, h => by
    have ih := flat_set (x := x) O m (by simpa using h)
    rw [List.modify_succ_cons]
    show (Value.int .i64 q.1 :: Value.int .i64 q.2 :: flat O).set ((m + 1) * 2 + 1) (.int .i64 x) = Value.int .i64 q.1 :: Value.int .i64 q.2 :: flat (O.modify m fun q => (q.1, x))
    rw [← ih, show (m + 1) * 2 + 1 = m * 2 + 1 + 1 + 1 by omega]
    rfl
theorem stepO_app {s : List (Int × Int)} {nt : Bool} {l : List Int} {i : Nat} {x : Int} (hx : l[i]? = some x) (hn : ¬ hasS s x = nt) (hc : ¬ (0 < (outF s nt l i).length ∧ condO s nt l i x = true)) : outF s nt l (i + 1) = outF s nt l i ++ [(x, x)] := by
  rw [outF, stepO, hx]
  simp only
  rw [if_neg hn, if_neg hc]
theorem stepO_set {s : List (Int × Int)} {nt : Bool} {l : List Int} {i m : Nat} {x : Int} (hx : l[i]? = some x) (hn : ¬ hasS s x = nt) (hm : (outF s nt l i).length = m + 1) (hc : condO s nt l i x = true) : outF s nt l (i + 1) = (outF s nt l i).modify m (fun q => (q.1, x)) := by
  rw [outF, stepO, hx]
  simp only
  rw [if_neg hn, if_pos ⟨by omega, hc⟩, hm]
  rfl
theorem condO_eq {s : List (Int × Int)} {nt : Bool} {l : List Int} {j : Nat} {p x : Int} (hp : l[j]? = some p) : condO s nt l (j + 1) x = ((hasS s p != nt) && joinF s nt p x) := by
  unfold condO
  rw [Nat.add_sub_cancel, hp]
def newsRowR (B : Nat) (cs : Array Value) : Row (fun W W' => Below W.heap.size W W') := ⟨fun v W => ∃ g, v = .slice (some ⟨g, 0, none⟩) 1 1 ∧ Blk W g 98 cs ∧ B ≤ g, fun _ _ _ ⟨g, e, h, hb⟩ hR => ⟨g, e, h.below hR h.lt, hb⟩⟩
theorem newsRowR_mk {B : Nat} (cs : Array Value) (W : World) (h : B ≤ W.heap.size) : (newsRowR B cs).p (.slice (some ⟨W.heap.size, 0, none⟩) 1 1) (W.alloc (.cells cs 98)) := ⟨_, rfl, Blk.new _ _ _, h⟩
set_option maxHeartbeats 4000000 in
theorem madeR_any (s : List (Int × Int)) (nt : Bool) (A : Option Addr) (n c B : Nat) (w : World) (hr : RgR w B A s) (hB : B ≤ w.heap.size) (hl : s.length = n) (hn : n ≤ 160) (hc : n ≤ c) :
    Calls Try.prog 64 #[.slice A n c, .bool nt] w fun e w' => ∃ v, e = .returned v ∧ SetV w' v (madeF s nt) ∧ (∀ k, v.ownBlock = some k → w.heap.size ≤ k) ∧ Below w.heap.size w w' := by
  obtain ⟨i0, hi0, hz0, hz1, hz2⟩ := info_parts info3
  obtain ⟨j0, hj0, hy0, hy1, hy2⟩ := info_parts infoR
  have HEND := Lib.hid (ends_any s A n c B w hr hB hl (by omega) hc)
  have HRG := Lib.hid (hr.more hB)
  have HLN := Lib.hid hl
  have hEl := endsF_len s
  rw [hl] at hEl
  have hEb : ∀ y ∈ endsF s, 0 ≤ y ∧ y ≤ 1114111 := fun y hy => endsF_bd hy
  have hMF : madeF s nt = outF s nt (distE (endsF s)) (distE (endsF s)).length := rfl
  obtain ⟨E, hE⟩ : ∃ E, endsF s = E := ⟨_, rfl⟩
  rw [hE] at HEND hEl hEb hMF
  have HEB := Lib.hid hEb
  have HMF := Lib.hid hMF
  obtain ⟨ne, hne⟩ : ∃ ne, E.length = ne := ⟨_, rfl⟩
  have HNE := Lib.hid hne
  rw [hne] at hEl
  have hne9 : ne ≤ 1000 := by omega
  clear hr hB hl hE hEb hMF hne hEl
  go_enter Try.func64, Try.ntmps64
  go_wp2_with fail
  refine HEND.out.mono ?_
  rintro e1 w1 ⟨v1, rfl, hz1, hk1, hb1⟩
  unfold ZsO at hz1
  rw [HNE.out] at hz1
  obtain ⟨Ae, ce, rfl, hce, -⟩ := hz1.len_
  have HRE := Lib.hid hz1.rd
  have HB1 := Lib.hid hb1
  have hs1 := hb1.size
  clear hz1 hk1 hb1 HEND
  go_wp2_with fail
  go_loopw [6, 7] (fun v6 v7 wr => ∃ i : Nat, v7 = .int .i64 (i : Int) ∧ i ≤ ne ∧ Hid (MdO w1 (distE (E.take i)) v6 wr)) (fun _ v7 _ => ne - (intOf v7).toNat)
  case atStart => exact ⟨0, rfl, by omega, Own.nil_ _ _ _, by simp [Value.ownBlock], Below.refl _ _⟩
  case round =>
  obtain ⟨i, rfl, hin, HM⟩ := hrel
  obtain ⟨w2, hw2⟩ : ∃ w2, w2 = wr := ⟨_, rfl⟩
  subst hw2
  obtain ⟨ho, hk, hb⟩ := HM.out
  have hll : (distE (E.take i)).length ≤ i := Nat.le_trans (distE_prop _).1 (by rw [List.length_take]; omega)
  obtain ⟨l, hl⟩ : ∃ l, distE (E.take i) = l := ⟨_, rfl⟩
  have HL := Lib.hid hl
  rw [hl] at ho hll
  obtain ⟨nl, hnl⟩ : ∃ nl, l.length = nl := ⟨_, rfl⟩
  have HNL := Lib.hid hnl
  unfold ZsO at ho
  rw [hnl] at ho hll
  obtain ⟨A6, c6, rfl, hc6, -⟩ := ho.len_
  have HO := Lib.hid ho
  have HB2 := Lib.hid hb
  have HK := Lib.hid hk
  have hs2 := hb.size
  clear HM ho hk hb hl hnl
  by_cases hlt : i < ne
  · obtain ⟨e, he⟩ : ∃ e, E[i]? = some e := ⟨_, List.getElem?_eq_getElem (by rw [HNE.out]; exact hlt)⟩
    obtain ⟨be, oe, rfl, hbe, hcell⟩ := HRE.out.2 (by omega)
    have ce1 := hcell i (by omega)
    rw [List.getElem?_map, he] at ce1
    have CE : Hid (w1.cell? ⟨be, oe + i, none⟩ = some (.int .i64 e)) := ce1
    have HEI := Lib.hid he
    clear hcell ce1 he
    go_wp2_with fail
    go_loopw [8] (fun v8 wr => ∃ k : Nat, v8 = .int .i64 (k : Int) ∧ k ≤ nl ∧ Hid (Drw w2 wr) ∧ Hid (∀ (j : Nat) (x : Int), j < k → l[j]? = some x → x < e)) (fun v8 _ => nl - (intOf v8).toNat)
    case atStart => exact ⟨0, rfl, by omega, Drw.refl _, fun j x hj => by omega⟩
    case round =>
    obtain ⟨k, rfl, hkn, HD, HI⟩ := hrel
    obtain ⟨w3, hw3⟩ : ∃ w3, w3 = wr := ⟨_, rfl⟩
    subst hw3
    have cei0 : w2.cell? ⟨be, oe + i, none⟩ = some (.int .i64 e) := (HB2.out.cell (p := ⟨be, oe + i, none⟩) hbe).trans CE.out
    have cei := HD.out.cell cei0
    have hs3 := HD.out.size
    have hbe3 : be < w3.heap.size := by omega
    by_cases hkl : k < nl
    · obtain ⟨x, hx⟩ : ∃ x, l[k]? = some x := ⟨_, List.getElem?_eq_getElem (by rw [HNL.out]; exact hkl)⟩
      obtain ⟨b6, o6, rfl, hb6, hcell6⟩ := HO.out.rd.2 (by omega)
      have c61 := hcell6 k (by omega)
      rw [List.getElem?_map, hx] at c61
      have c62 : w2.cell? ⟨b6, o6 + k, none⟩ = some (.int .i64 x) := c61
      have c63 := HD.out.cell c62
      have hb63 : b6 < w3.heap.size := by omega
      have HX := Lib.hid hx
      clear hcell6 c61 hx
      by_cases hxe : x < e
      · have HI2 : Hid (∀ (j : Nat) (y : Int), j < k + 1 → l[j]? = some y → y < e) := fun j y hj hy => by
          rcases Nat.lt_or_eq_of_le (Nat.le_of_lt_succ hj) with h | rfl
          · exact HI.out j y h hy
          · rw [HX.out] at hy
            obtain rfl := Option.some.inj hy
            exact hxe
        clear HI
        go_upto_region 7 with fail
        go_quiet (fail)
        have HD4 := Lib.hid (HD.out.more nq)
        generalize w3.drewN nq = w4 at HD4 ⊢
        go_wp2_with fail
        go_roundw
        case rel => exact ⟨k + 1, by go_num, by omega, HD4.out, HI2⟩
        case measure => simp [intOf] <;> omega
      · have HPE : Hid (posE l e = k) := posE_of (by rw [HNL.out]; exact hkn) HI.out (fun y hy => by rw [HX.out] at hy; obtain rfl := Option.some.inj hy; exact hxe)
        go_upto_region 7 with fail
        go_quiet (fail)
        have HD4 := Lib.hid (HD.out.more nq)
        generalize w3.drewN nq = w4 at HD4 ⊢
        have cei := HD4.out.cell cei0
        have hs4 := HD4.out.size
        have hbe4 : be < w4.heap.size := by omega
        have c64 := HD4.out.cell c62
        have hb64 : b6 < w4.heap.size := by omega
        clear HI HD c63 hb63
        by_cases hxq : x = e
        · have HM2 : Hid (MdO w1 (distE (E.take (i + 1))) (.slice (some ⟨b6, o6, none⟩) nl c6) w4) := by
            have e1 : distE (E.take (i + 1)) = l := by rw [distE_take HEI.out, HL.out]; exact insE_old HPE.out (by rw [HX.out, hxq])
            rw [e1]
            unfold MdO ZsO
            rw [HNL.out]
            exact ⟨HD4.out.own HO.out, HK.out, HD4.out.bel HB2.out⟩
          subst hxq
          clear hxe
          go_upto_region 9 with fail
          go_quiet (fail)
          have HM3 : Hid (MdO w1 (distE (E.take (i + 1))) (.slice (some ⟨b6, o6, none⟩) nl c6) (w4.drewN nq)) := ⟨Own.drewN HM2.out.1 nq, HM2.out.2.1, below_drewN HM2.out.2.2 nq⟩
          generalize w4.drewN nq = w5 at HM3 ⊢
          go_wp2_with fail
          go_roundw
          case rel => exact ⟨i + 1, by go_num, by omega, HM3.out⟩
          case measure => simp [intOf] <;> omega
        · have HNQ : Hid (l[k]? ≠ some e) := fun h => by rw [HX.out] at h; exact hxq (Option.some.inj h)
          have hxd : (x == e) = false := by simpa using hxq
          go_upto_region 9 with fail
          go_quiet (fail)
          have HD5 := Lib.hid (HD4.out.more nq)
          generalize w4.drewN nq = w5 at HD5 ⊢
          clear HD4
          have ho5 : Own w5 3 1 (.slice (some ⟨b6, o6, none⟩) nl c6) nl (l.map iV) := HD5.out.own HO.out
          obtain ⟨Ah, ch, hsl1, hrd1, hch⟩ := rd_head (P := Try.prog) 38 Try.underlying38 (fun W => by kernel_rfl) ho5.rd hc6 k hkn
          obtain ⟨At, ct, hsl2, hrd2, hct, -⟩ := rd_tail (P := Try.prog) 38 Try.underlying38 (fun W => by kernel_rfl) ho5.rd hc6 k hkn
          rw [Nat.mul_one] at hrd1 hrd2
          have HRH := Lib.hid hrd1
          have HRT := Lib.hid hrd2
          have HB5 := Lib.hid (HD5.out.bel HB2.out)
          have hs5 := HD5.out.size
          have ce5 := HD5.out.cell cei0
          have hbe5 : be < w5.heap.size := by omega
          clear ho5 hrd1 hrd2
          go_upto_region 12 with (at_builtin; refine wpList_append_rd _ rfl (.tmp 53) (.tmp 56) _ rfl 3 i0 _ 1 8 Try.underlying38 hi0 hz0 hz1 hz2 rfl (by omega) (.slice none 0 0) 0 [] rfl (by exact Own.nil_ _ _ _) w5.heap.size Ah k ch ((l.map iV).take k) rfl (by exact HRH.out) (fun u hu => iV_one l u (List.mem_of_mem_take hu)) (by simp only [maxLen]; omega) (by omega) _ rfl ?_; intro v9 w9 hown9 hgrow9 hat9; rw [Nat.zero_add, List.nil_append] at hown9; obtain ⟨A9, c9, rfl, hc9, -⟩ := hown9.len_; have HO9 := Lib.hid hown9; have HB9 := Lib.hid (Below.grown (Below.refl w5.heap.size w5) hgrow9 (Nat.le_refl _) (fun k hk => by simp [Value.ownBlock] at hk)); have HK9 := Lib.hid (rd_far (B := w5.heap.size) (fun k hk => by simp [Value.ownBlock] at hk) hat9 (Nat.le_refl _)); clear hown9 hgrow9 hat9)
          have ce9 : w9.cell? ⟨be, oe + i, none⟩ = some (.int .i64 e) := (HB9.out.cell (p := ⟨be, oe + i, none⟩) hbe5).trans ce5
          have hs9 := HB9.out.size
          have hbe9 : be < w9.heap.size := by omega
          clear ce5
          go_upto_region 13 with (at_builtin; refine wpList_append_mine _ rfl (.tmp 58) (.tmp 63) _ rfl 3 i0 _ 1 8 Try.underlying38 hi0 hz0 hz1 hz2 rfl (by omega) (.slice A9 k c9) k ((l.map iV).take k) rfl (by exact HO9.out.alloc _) _ 1 1 [_] rfl rfl (by exact news_push rfl rfl) (by simp [Value.oneCell']) (by omega) (by simp only [maxLen]; omega) (by omega) _ rfl ?_; intro g5 o5 c5 w10 hown10 hgrow10 hat10; have HO10 := Lib.hid hown10; have HB10 := Lib.hid (Below.grown (HB9.out.alloc HB9.out.size _) hgrow10 (by simp; omega) HK9.out); have HK10 := Lib.hid (zs_far (o := o5) (n := k + 1) (c := c5) (B := w5.heap.size) HK9.out hat10 (by simp; omega)); clear hown10 hgrow10 hat10)
          clear ce9 hbe9
          have hs10 := HB10.out.size
          have HR13 := Lib.hid (HRT.out.below HB10.out)
          go_wp2_with (at_builtin; refine wpList_append_rd _ rfl (.tmp 65) (.tmp 68) _ rfl 3 i0 _ 1 8 Try.underlying38 hi0 hz0 hz1 hz2 rfl (by omega) (.slice (some ⟨g5, o5, none⟩) (k + 1) c5) (k + 1) ((l.map iV).take k ++ [.int .i64 e]) rfl (by exact HO10.out) w5.heap.size At (nl - k) ct ((l.map iV).drop k) rfl (by exact HR13.out) (fun u hu => iV_one l u (List.mem_of_mem_drop hu)) (by simp only [maxLen]; omega) (by omega) _ rfl ?_; intro v11 w11 hown11 hgrow11 hat11; have HO11 := Lib.hid hown11; have HB11 := Lib.hid (Below.grown HB10.out hgrow11 hs10 HK10.out); have HK11 := Lib.hid (rd_far (B := w5.heap.size) HK10.out hat11 hs10); clear hown11 hgrow11 hat11)
          have HM2 : Hid (MdO w1 (distE (E.take (i + 1))) v11 w11) := ⟨by rw [distE_take HEI.out, HL.out]; exact zs_of HO11.out (insE_eq HPE.out HNQ.out).symm, fun k hk => by have := HK11.out k hk; omega, HB5.out.trans (HB11.out.mono (by omega))⟩
          go_roundw
          case rel => exact ⟨i + 1, by go_num, by omega, HM2.out⟩
          case measure => simp [intOf] <;> omega
    · have HPE : Hid (posE l e = k) := posE_of (by rw [HNL.out]; exact hkn) HI.out (fun y hy => by have := (List.getElem?_eq_some_iff.1 hy).1; rw [HNL.out] at this; omega)
      have HNQ : Hid (l[k]? ≠ some e) := fun h => by have := (List.getElem?_eq_some_iff.1 h).1; rw [HNL.out] at this; omega
      go_upto_region 7 with fail
      go_quiet (fail)
      have HD4 := Lib.hid (HD.out.more nq)
      generalize w3.drewN nq = w4 at HD4 ⊢
      have cei := HD4.out.cell cei0
      have hs4 := HD4.out.size
      have hbe4 : be < w4.heap.size := by omega
      clear HI HD
      go_upto_region 9 with fail
      go_quiet (fail)
      have HD5 := Lib.hid (HD4.out.more nq)
      generalize w4.drewN nq = w5 at HD5 ⊢
      clear HD4
      have ho5 : Own w5 3 1 (.slice A6 nl c6) nl (l.map iV) := HD5.out.own HO.out
      obtain ⟨Ah, ch, hsl1, hrd1, hch⟩ := rd_head (P := Try.prog) 38 Try.underlying38 (fun W => by kernel_rfl) ho5.rd hc6 k hkn
      obtain ⟨At, ct, hsl2, hrd2, hct, -⟩ := rd_tail (P := Try.prog) 38 Try.underlying38 (fun W => by kernel_rfl) ho5.rd hc6 k hkn
      rw [Nat.mul_one] at hrd1 hrd2
      have HRH := Lib.hid hrd1
      have HRT := Lib.hid hrd2
      have HB5 := Lib.hid (HD5.out.bel HB2.out)
      have hs5 := HD5.out.size
      have ce5 := HD5.out.cell cei0
      have hbe5 : be < w5.heap.size := by omega
      clear ho5 hrd1 hrd2
      go_upto_region 12 with (at_builtin; refine wpList_append_rd _ rfl (.tmp 53) (.tmp 56) _ rfl 3 i0 _ 1 8 Try.underlying38 hi0 hz0 hz1 hz2 rfl (by omega) (.slice none 0 0) 0 [] rfl (by exact Own.nil_ _ _ _) w5.heap.size Ah k ch ((l.map iV).take k) rfl (by exact HRH.out) (fun u hu => iV_one l u (List.mem_of_mem_take hu)) (by simp only [maxLen]; omega) (by omega) _ rfl ?_; intro v9 w9 hown9 hgrow9 hat9; rw [Nat.zero_add, List.nil_append] at hown9; obtain ⟨A9, c9, rfl, hc9, -⟩ := hown9.len_; have HO9 := Lib.hid hown9; have HB9 := Lib.hid (Below.grown (Below.refl w5.heap.size w5) hgrow9 (Nat.le_refl _) (fun k hk => by simp [Value.ownBlock] at hk)); have HK9 := Lib.hid (rd_far (B := w5.heap.size) (fun k hk => by simp [Value.ownBlock] at hk) hat9 (Nat.le_refl _)); clear hown9 hgrow9 hat9)
      have ce9 : w9.cell? ⟨be, oe + i, none⟩ = some (.int .i64 e) := (HB9.out.cell (p := ⟨be, oe + i, none⟩) hbe5).trans ce5
      have hs9 := HB9.out.size
      have hbe9 : be < w9.heap.size := by omega
      clear ce5
      go_upto_region 13 with (at_builtin; refine wpList_append_mine _ rfl (.tmp 58) (.tmp 63) _ rfl 3 i0 _ 1 8 Try.underlying38 hi0 hz0 hz1 hz2 rfl (by omega) (.slice A9 k c9) k ((l.map iV).take k) rfl (by exact HO9.out.alloc _) _ 1 1 [_] rfl rfl (by exact news_push rfl rfl) (by simp [Value.oneCell']) (by omega) (by simp only [maxLen]; omega) (by omega) _ rfl ?_; intro g5 o5 c5 w10 hown10 hgrow10 hat10; have HO10 := Lib.hid hown10; have HB10 := Lib.hid (Below.grown (HB9.out.alloc HB9.out.size _) hgrow10 (by simp; omega) HK9.out); have HK10 := Lib.hid (zs_far (o := o5) (n := k + 1) (c := c5) (B := w5.heap.size) HK9.out hat10 (by simp; omega)); clear hown10 hgrow10 hat10)
      clear ce9 hbe9
      have hs10 := HB10.out.size
      have HR13 := Lib.hid (HRT.out.below HB10.out)
      go_wp2_with (at_builtin; refine wpList_append_rd _ rfl (.tmp 65) (.tmp 68) _ rfl 3 i0 _ 1 8 Try.underlying38 hi0 hz0 hz1 hz2 rfl (by omega) (.slice (some ⟨g5, o5, none⟩) (k + 1) c5) (k + 1) ((l.map iV).take k ++ [.int .i64 e]) rfl (by exact HO10.out) w5.heap.size At (nl - k) ct ((l.map iV).drop k) rfl (by exact HR13.out) (fun u hu => iV_one l u (List.mem_of_mem_drop hu)) (by simp only [maxLen]; omega) (by omega) _ rfl ?_; intro v11 w11 hown11 hgrow11 hat11; have HO11 := Lib.hid hown11; have HB11 := Lib.hid (Below.grown HB10.out hgrow11 hs10 HK10.out); have HK11 := Lib.hid (rd_far (B := w5.heap.size) HK10.out hat11 hs10); clear hown11 hgrow11 hat11)
      have HM2 : Hid (MdO w1 (distE (E.take (i + 1))) v11 w11) := ⟨by rw [distE_take HEI.out, HL.out]; exact zs_of HO11.out (insE_eq HPE.out HNQ.out).symm, fun k hk => by have := HK11.out k hk; omega, HB5.out.trans (HB11.out.mono (by omega))⟩
      go_roundw
      case rel => exact ⟨i + 1, by go_num, by omega, HM2.out⟩
      case measure => simp [intOf] <;> omega
  · obtain rfl : i = ne := by omega
    have HLE : Hid (distE E = l) := by
      have := HL.out
      rw [List.take_of_length_le (by rw [HNE.out]; exact Nat.le_refl _)] at this
      exact this
    have HLB : Hid (∀ x ∈ l, 0 ≤ x ∧ x ≤ 1114111) := fun x hx => HEB.out x ((distE_prop E).2 x (by rw [HLE.out]; exact hx))
    have HFIN : Hid (madeF s nt = outF s nt l nl) := by
      show _ = _
      rw [HMF.out, HLE.out, HNL.out]
    clear HL HEB HMF
    go_wp2_with fail
    go_loopw [10, 11] (fun v10 v11 wr => ∃ i : Nat, v11 = .int .i64 (i : Int) ∧ i ≤ nl ∧ Hid (MdS w2 (outF s nt l i) v10 wr)) (fun _ v11 _ => nl - (intOf v11).toNat)
    case atStart => exact ⟨0, rfl, by omega, SetV.nil_ _, by simp [Value.ownBlock], Below.refl _ _⟩
    case round =>
    clear hlt hin
    obtain ⟨i, rfl, hin, HM⟩ := hrel
    obtain ⟨w3, hw3⟩ : ∃ w3, w3 = wr := ⟨_, rfl⟩
    subst hw3
    obtain ⟨ho3, hk3, hb3⟩ := HM.out
    have hOl := outF_len s nt l i
    obtain ⟨O, hO⟩ : ∃ O, outF s nt l i = O := ⟨_, rfl⟩
    have HOE := Lib.hid hO
    rw [hO] at ho3 hOl
    unfold SetV at ho3
    obtain ⟨no, hno⟩ : ∃ no, O.length = no := ⟨_, rfl⟩
    have HNO := Lib.hid hno
    rw [hno] at ho3 hOl
    obtain ⟨A10, c10, rfl, hc10, -⟩ := ho3.len_
    have HO3 := Lib.hid ho3
    have HK3 := Lib.hid hk3
    have HB3 := Lib.hid hb3
    have hs3 := hb3.size
    clear HM ho3 hk3 hb3 hO hno
    by_cases hlt : i < nl
    · obtain ⟨x, hx⟩ : ∃ x, l[i]? = some x := ⟨_, List.getElem?_eq_getElem (by rw [HNL.out]; exact hlt)⟩
      have HX := Lib.hid hx
      obtain ⟨lb, lo, rfl, hlb, hcell⟩ := HO.out.rd.2 (by omega)
      have cl : ∀ j y, l[j]? = some y → w3.cell? ⟨lb, lo + j, none⟩ = some (.int .i64 y) := fun j y hj => by
        have hjl := (List.getElem?_eq_some_iff.1 hj).1
        rw [HNL.out] at hjl
        have := hcell j (by omega)
        rw [List.getElem?_map, hj] at this
        exact (HB3.out.cell (p := ⟨lb, lo + j, none⟩) hlb).trans this
      have HCL := Lib.hid cl
      have cx := cl i x hx
      have hlb3 : lb < w3.heap.size := by omega
      have HRG3 : Hid (RgR w3 w.heap.size A s) := HRG.out.below (HB1.out.trans ((HB2.out.trans (HB3.out.mono hs2)).mono hs1))
      have HHAS := Lib.hid (fun (y : Int) => refHas_any s y A n c w.heap.size w3 HRG3.out (by omega) HLN.out (by omega) hc)
      have HHASQ := Lib.hid (fun (y : Int) (q : Nat) => refHas_any s y A n c w.heap.size (w3.drewN q) (HRG3.out.below (below_drewN (Below.refl _ _) q)) (by show _ ≤ w3.heap.size; omega) HLN.out (by omega) hc)
      have HJOIQ := Lib.hid (fun (a b : Int) (ha : 0 ≤ a ∧ a ≤ 1114111) (q : Nat) => joined_any s a b nt A n c w.heap.size (w3.drewN q) (HRG3.out.below (below_drewN (Below.refl _ _) q)) (by show _ ≤ w3.heap.size; omega) HLN.out (by omega) hc ha.1 ha.2)
      have HHX := Lib.hid (HHAS.out x)
      obtain ⟨h, hh⟩ : ∃ h, hasS s x = h := ⟨_, rfl⟩
      have HH := Lib.hid hh
      rw [hh] at HHX
      clear hcell cl hx hh HHAS
      go_wp2_with fail
      refine HHX.out.mono ?_
      rintro e4 w4 ⟨rfl, rfl⟩
      clear HHX
      by_cases hnt : h = nt
      · subst hnt
        have HM2 : Hid (MdS w2 (outF s h l (i + 1)) (.slice A10 no c10) w4) := by
          have e : outF s h l (i + 1) = O := by rw [outF, stepO, HX.out, HOE.out]; simp only; rw [if_pos HH.out]
          refine ⟨?_, HK3.out, HB3.out⟩
          rw [e]
          unfold SetV
          rw [HNO.out]
          exact HO3.out
        go_wp2_with fail
        go_roundw
        case rel => exact ⟨i + 1, by go_num, by omega, HM2.out⟩
        case measure => simp [intOf] <;> omega
      · have hd : (h == nt) = false := by simpa using hnt
        have HNT : Hid (¬ hasS s x = nt) := by rw [HH.out]; exact hnt
        clear HH hnt
        by_cases hn0 : no = 0
        · subst hn0
          have HE : Hid (outF s nt l (i + 1) = O ++ [(x, x)]) := by
            rw [← HOE.out]
            exact stepO_app HX.out HNT.out (fun h => by have := h.1; rw [HOE.out, HNO.out] at this; omega)
          go_upto_region 20 with fail
          go_quiet (fail)
          have HD5 := Lib.hid ((Drw.refl w4).more nq)
          generalize w4.drewN nq = w5 at HD5 ⊢
          have HO5 := Lib.hid (HD5.out.own HO3.out)
          have HB5 := Lib.hid (HD5.out.bel HB3.out)
          have cx5 := HD5.out.cell cx
          have hs5 := HD5.out.size
          have hlb5 : lb < w5.heap.size := by omega
          clear HHASQ HJOIQ
          go_upto_region 22 with fail
          refine region_tail 11 (by kernel_rfl) (by kernel_rfl) (fun W W' => Below W.heap.size W W')
            [.val (.slice A10 0 c10),
             .val (.slice (some ⟨lb, lo, none⟩) nl c6),
             .val (.int .i64 (i : Int)),
             .val (.pointer (some ⟨lb, lo + i, none⟩)),
             .val (.int .i64 x),
             .val (.slice (some ⟨lb, lo, none⟩) nl c6),
             .val (.int .i64 (i : Int)),
             .val (.pointer (some ⟨lb, lo + i, none⟩)),
             .val (.int .i64 x),
             .val (.agg #[.int .i64 x, .int .i64 x]),
             newsRowR w5.drew.heap.size #[.int .i64 x, .int .i64 x]]
            (fun W => Below.refl _ W) (fun _ _ _ h k => below_trans h k) (by kernel_rfl) ?_ ?_
          · refine ⟨?_, ?_, ?_, ?_, ?_, ?_, ?_, ?_, ?_, ?_, ?_, trivial⟩
            · intro ra RW hR hk hd K hK
              obtain ⟨e10, g10⟩ := hk 10 (.slice A10 0 c10) (by kernel_rfl) rfl
              clear hk hd
              have HR := Lib.hid hR
              clear hR
              go_simp
              exact hK _ _ (Below.refl _ _) rfl
            · intro ra RW hR hk hd K hK
              obtain ⟨e6, g6⟩ := hk 6 (.slice (some ⟨lb, lo, none⟩) nl c6) (by kernel_rfl) rfl
              clear hk hd
              have HR := Lib.hid hR
              clear hR
              go_simp
              exact hK _ _ (Below.refl _ _) rfl
            · intro ra RW hR hk hd K hK
              obtain ⟨e11, g11⟩ := hk 11 (.int .i64 (i : Int)) (by kernel_rfl) rfl
              clear hk hd
              have HR := Lib.hid hR
              clear hR
              go_simp
              exact hK _ _ (Below.refl _ _) rfl
            · intro ra RW hR hk hd K hK
              obtain ⟨v127, e127, g127, f127⟩ := hd 1 127 (by kernel_rfl) rfl
              have f127 : v127 = .slice (some ⟨lb, lo, none⟩) nl c6 := f127
              subst f127
              obtain ⟨v128, e128, g128, f128⟩ := hd 2 128 (by kernel_rfl) rfl
              have f128 : v128 = .int .i64 (i : Int) := f128
              subst f128
              clear hk hd
              have HR := Lib.hid hR
              clear hR
              go_simp
              exact hK _ _ (Below.refl _ _) rfl
            · intro ra RW hR hk hd K hK
              obtain ⟨v129, e129, g129, f129⟩ := hd 3 129 (by kernel_rfl) rfl
              have f129 : v129 = .pointer (some ⟨lb, lo + i, none⟩) := f129
              subst f129
              clear hk hd
              have HR := Lib.hid hR
              clear hR
              have dd0 := (HR.out.cell (p := ⟨lb, lo + i, none⟩) hlb5).trans cx5
              go_simp
              exact hK _ _ (Below.refl _ _) rfl
            · intro ra RW hR hk hd K hK
              obtain ⟨e6, g6⟩ := hk 6 (.slice (some ⟨lb, lo, none⟩) nl c6) (by kernel_rfl) rfl
              clear hk hd
              have HR := Lib.hid hR
              clear hR
              go_simp
              exact hK _ _ (Below.refl _ _) rfl
            · intro ra RW hR hk hd K hK
              obtain ⟨e11, g11⟩ := hk 11 (.int .i64 (i : Int)) (by kernel_rfl) rfl
              clear hk hd
              have HR := Lib.hid hR
              clear hR
              go_simp
              exact hK _ _ (Below.refl _ _) rfl
            · intro ra RW hR hk hd K hK
              obtain ⟨v131, e131, g131, f131⟩ := hd 5 131 (by kernel_rfl) rfl
              have f131 : v131 = .slice (some ⟨lb, lo, none⟩) nl c6 := f131
              subst f131
              obtain ⟨v132, e132, g132, f132⟩ := hd 6 132 (by kernel_rfl) rfl
              have f132 : v132 = .int .i64 (i : Int) := f132
              subst f132
              clear hk hd
              have HR := Lib.hid hR
              clear hR
              go_simp
              exact hK _ _ (Below.refl _ _) rfl
            · intro ra RW hR hk hd K hK
              obtain ⟨v133, e133, g133, f133⟩ := hd 7 133 (by kernel_rfl) rfl
              have f133 : v133 = .pointer (some ⟨lb, lo + i, none⟩) := f133
              subst f133
              clear hk hd
              have HR := Lib.hid hR
              clear hR
              have dd0 := (HR.out.cell (p := ⟨lb, lo + i, none⟩) hlb5).trans cx5
              go_simp
              exact hK _ _ (Below.refl _ _) rfl
            · intro ra RW hR hk hd K hK
              obtain ⟨v130, e130, g130, f130⟩ := hd 4 130 (by kernel_rfl) rfl
              have f130 : v130 = .int .i64 x := f130
              subst f130
              obtain ⟨v134, e134, g134, f134⟩ := hd 8 134 (by kernel_rfl) rfl
              have f134 : v134 = .int .i64 x := f134
              subst f134
              clear hk hd
              have HR := Lib.hid hR
              clear hR
              go_simp
              exact hK _ _ (Below.refl _ _) rfl
            · intro ra RW hR hk hd K hK
              obtain ⟨v135, e135, g135, f135⟩ := hd 9 135 (by kernel_rfl) rfl
              have f135 : v135 = .agg #[.int .i64 x, .int .i64 x] := f135
              subst f135
              clear hk hd
              have HR := Lib.hid hR
              clear hR
              go_simp
              exact hK _ _ (below_al (Below.refl _ _) _) (newsRowR_mk _ _ HR.out.size)
          intro vs RW hR hF
          have q0 : vs 0 = .slice A10 0 c10 := hF 0 (by decide)
          have q1 : vs 1 = .slice (some ⟨lb, lo, none⟩) nl c6 := hF 1 (by decide)
          have q2 : vs 2 = .int .i64 (i : Int) := hF 2 (by decide)
          have q3 : vs 3 = .pointer (some ⟨lb, lo + i, none⟩) := hF 3 (by decide)
          have q4 : vs 4 = .int .i64 x := hF 4 (by decide)
          have q5 : vs 5 = .slice (some ⟨lb, lo, none⟩) nl c6 := hF 5 (by decide)
          have q6 : vs 6 = .int .i64 (i : Int) := hF 6 (by decide)
          have q7 : vs 7 = .pointer (some ⟨lb, lo + i, none⟩) := hF 7 (by decide)
          have q8 : vs 8 = .int .i64 x := hF 8 (by decide)
          have q9 : vs 9 = .agg #[.int .i64 x, .int .i64 x] := hF 9 (by decide)
          have F136 := Lib.hid (hF 10 (by decide))
          simp only [List.take_succ_cons, List.take_zero, List.drop_succ_cons, List.drop_zero, setAll, List.setIfInBounds_toArray, List.set_cons_zero, List.set_cons_succ, q0, q1, q2, q3, q4, q5, q6, q7, q8, q9]
          clear hF q0 q1 q2 q3 q4 q5 q6 q7 q8 q9
          generalize vs 10 = v136 at *
          clear vs
          have HO6 := Lib.hid (HO5.out.drew.below hR fun k hk => HO5.out.lt hk)
          have HB6 := Lib.hid ((Below.drew HB5.out).trans (hR.mono HB5.out.size))
          have hs6 := HB6.out.size
          clear hR cx5
          obtain ⟨gq, rfl, hgq, hbq⟩ := F136.out
          have HGQ := Lib.hid hgq
          clear hgq hbq F136
          go_wp2_with (at_builtin; refine wpList_append_mine _ rfl (.tmp 126) (.tmp 136) _ rfl 98 j0 _ 2 16 Try.underlying46 hj0 hy0 hy1 hy2 rfl (by omega) (.slice A10 0 c10) (0) (flat O) rfl (by exact HO6.out) _ 1 1 [.int .i64 x, .int .i64 x] rfl rfl (by exact World.news_of_block (cs := #[.int .i64 x, .int .i64 x]) (fr := (0, 0)) (t := 98) HGQ.out) (by simp [Value.oneCell']) (by omega) (by simp only [maxLen]; omega) (by omega) _ rfl ?_; intro g7 o7 c7 w7 hown7 hgrow7 hat7; have HO7 := Lib.hid hown7; have HB7 := Lib.hid (Below.grown HB6.out hgrow7 hs6 HK3.out); have HK7 := Lib.hid (zs_far (o := o7) (n := 0 + 1) (c := c7) (B := w2.heap.size) HK3.out hat7 hs6); clear hown7 hgrow7 hat7)
          have HM2 : Hid (MdS w2 (outF s nt l (i + 1)) (.slice (some ⟨g7, o7, none⟩) (0 + 1) c7) w7) := by
            refine ⟨?_, HK7.out, HB7.out⟩
            rw [HE.out]
            unfold SetV
            rw [List.length_append, List.length_singleton, HNO.out, flat, List.flatMap_append, ← flat]
            exact HO7.out
          go_roundw
          case rel => exact ⟨i + 1, by go_num, by omega, HM2.out⟩
          case measure => simp [intOf] <;> omega
        · obtain ⟨m, rfl⟩ : ∃ m, no = m + 1 := ⟨no - 1, by omega⟩
          obtain ⟨j, hij⟩ : ∃ j, i = j + 1 := ⟨i - 1, by omega⟩
          have HIJ := Lib.hid hij
          obtain ⟨p, hp⟩ : ∃ p, l[j]? = some p := ⟨_, List.getElem?_eq_getElem (by rw [HNL.out]; omega)⟩
          have HPP := Lib.hid hp
          have HPB := Lib.hid (HLB.out p (List.mem_of_getElem? hp))
          have cp := HCL.out j p hp
          rw [show j = i - 1 by omega] at cp
          have hi1 : 0 < i := by omega
          obtain ⟨hv, hhv⟩ : ∃ hv, hasS s p = hv := ⟨_, rfl⟩
          have HHV := Lib.hid hhv
          have HHPV : Hid (Ending.returned (.bool (hasS s p)) = .returned (.bool hv)) := by rw [hhv]; rfl
          obtain ⟨jn, hjn⟩ : ∃ jn, joinF s nt p x = jn := ⟨_, rfl⟩
          have HJN := Lib.hid hjn
          have HJV : Hid (Ending.returned (.bool (joinF s nt p x)) = .returned (.bool jn)) := by rw [hjn]; rfl
          clear hp hhv hjn hn0 hij
          by_cases hpn : hv = nt
          · subst hpn
            have HE : Hid (outF s hv l (i + 1) = O ++ [(x, x)]) := by
              rw [← HOE.out]
              exact stepO_app HX.out HNT.out (fun h => by have := h.2; rw [HIJ.out, condO_eq HPP.out, HHV.out] at this; simp at this)
            go_upto_region 20 with fail
            go_quiet ((first | (go_at_call 49; exact quiet_left ((HHASQ.out _ _).mono fun e w' h => ⟨h.1.trans HHPV.out, h.2.symm⟩)) | (go_at_call 74; exact quiet_left ((HJOIQ.out _ _ HPB.out _).mono fun e w' h => ⟨h.1.trans HJV.out, h.2.symm⟩))))
            have HD5 := Lib.hid ((Drw.refl w4).more nq)
            generalize w4.drewN nq = w5 at HD5 ⊢
            have HO5 := Lib.hid (HD5.out.own HO3.out)
            have HB5 := Lib.hid (HD5.out.bel HB3.out)
            have cx5 := HD5.out.cell cx
            have hs5 := HD5.out.size
            have hlb5 : lb < w5.heap.size := by omega
            clear HHASQ HJOIQ
            go_upto_region 22 with fail
            refine region_tail 11 (by kernel_rfl) (by kernel_rfl) (fun W W' => Below W.heap.size W W')
              [.val (.slice A10 (m + 1) c10),
               .val (.slice (some ⟨lb, lo, none⟩) nl c6),
               .val (.int .i64 (i : Int)),
               .val (.pointer (some ⟨lb, lo + i, none⟩)),
               .val (.int .i64 x),
               .val (.slice (some ⟨lb, lo, none⟩) nl c6),
               .val (.int .i64 (i : Int)),
               .val (.pointer (some ⟨lb, lo + i, none⟩)),
               .val (.int .i64 x),
               .val (.agg #[.int .i64 x, .int .i64 x]),
               newsRowR w5.drew.heap.size #[.int .i64 x, .int .i64 x]]
              (fun W => Below.refl _ W) (fun _ _ _ h k => below_trans h k) (by kernel_rfl) ?_ ?_
            · refine ⟨?_, ?_, ?_, ?_, ?_, ?_, ?_, ?_, ?_, ?_, ?_, trivial⟩
              · intro ra RW hR hk hd K hK
                obtain ⟨e10, g10⟩ := hk 10 (.slice A10 (m + 1) c10) (by kernel_rfl) rfl
                clear hk hd
                have HR := Lib.hid hR
                clear hR
                go_simp
                exact hK _ _ (Below.refl _ _) rfl
              · intro ra RW hR hk hd K hK
                obtain ⟨e6, g6⟩ := hk 6 (.slice (some ⟨lb, lo, none⟩) nl c6) (by kernel_rfl) rfl
                clear hk hd
                have HR := Lib.hid hR
                clear hR
                go_simp
                exact hK _ _ (Below.refl _ _) rfl
              · intro ra RW hR hk hd K hK
                obtain ⟨e11, g11⟩ := hk 11 (.int .i64 (i : Int)) (by kernel_rfl) rfl
                clear hk hd
                have HR := Lib.hid hR
                clear hR
                go_simp
                exact hK _ _ (Below.refl _ _) rfl
              · intro ra RW hR hk hd K hK
                obtain ⟨v127, e127, g127, f127⟩ := hd 1 127 (by kernel_rfl) rfl
                have f127 : v127 = .slice (some ⟨lb, lo, none⟩) nl c6 := f127
                subst f127
                obtain ⟨v128, e128, g128, f128⟩ := hd 2 128 (by kernel_rfl) rfl
                have f128 : v128 = .int .i64 (i : Int) := f128
                subst f128
                clear hk hd
                have HR := Lib.hid hR
                clear hR
                go_simp
                exact hK _ _ (Below.refl _ _) rfl
              · intro ra RW hR hk hd K hK
                obtain ⟨v129, e129, g129, f129⟩ := hd 3 129 (by kernel_rfl) rfl
                have f129 : v129 = .pointer (some ⟨lb, lo + i, none⟩) := f129
                subst f129
                clear hk hd
                have HR := Lib.hid hR
                clear hR
                have dd0 := (HR.out.cell (p := ⟨lb, lo + i, none⟩) hlb5).trans cx5
                go_simp
                exact hK _ _ (Below.refl _ _) rfl
              · intro ra RW hR hk hd K hK
                obtain ⟨e6, g6⟩ := hk 6 (.slice (some ⟨lb, lo, none⟩) nl c6) (by kernel_rfl) rfl
                clear hk hd
                have HR := Lib.hid hR
                clear hR
                go_simp
                exact hK _ _ (Below.refl _ _) rfl
              · intro ra RW hR hk hd K hK
                obtain ⟨e11, g11⟩ := hk 11 (.int .i64 (i : Int)) (by kernel_rfl) rfl
                clear hk hd
                have HR := Lib.hid hR
                clear hR
                go_simp
                exact hK _ _ (Below.refl _ _) rfl
              · intro ra RW hR hk hd K hK
                obtain ⟨v131, e131, g131, f131⟩ := hd 5 131 (by kernel_rfl) rfl
                have f131 : v131 = .slice (some ⟨lb, lo, none⟩) nl c6 := f131
                subst f131
                obtain ⟨v132, e132, g132, f132⟩ := hd 6 132 (by kernel_rfl) rfl
                have f132 : v132 = .int .i64 (i : Int) := f132
                subst f132
                clear hk hd
                have HR := Lib.hid hR
                clear hR
                go_simp
                exact hK _ _ (Below.refl _ _) rfl
              · intro ra RW hR hk hd K hK
                obtain ⟨v133, e133, g133, f133⟩ := hd 7 133 (by kernel_rfl) rfl
                have f133 : v133 = .pointer (some ⟨lb, lo + i, none⟩) := f133
                subst f133
                clear hk hd
                have HR := Lib.hid hR
                clear hR
                have dd0 := (HR.out.cell (p := ⟨lb, lo + i, none⟩) hlb5).trans cx5
                go_simp
                exact hK _ _ (Below.refl _ _) rfl
              · intro ra RW hR hk hd K hK
                obtain ⟨v130, e130, g130, f130⟩ := hd 4 130 (by kernel_rfl) rfl
                have f130 : v130 = .int .i64 x := f130
                subst f130
                obtain ⟨v134, e134, g134, f134⟩ := hd 8 134 (by kernel_rfl) rfl
                have f134 : v134 = .int .i64 x := f134
                subst f134
                clear hk hd
                have HR := Lib.hid hR
                clear hR
                go_simp
                exact hK _ _ (Below.refl _ _) rfl
              · intro ra RW hR hk hd K hK
                obtain ⟨v135, e135, g135, f135⟩ := hd 9 135 (by kernel_rfl) rfl
                have f135 : v135 = .agg #[.int .i64 x, .int .i64 x] := f135
                subst f135
                clear hk hd
                have HR := Lib.hid hR
                clear hR
                go_simp
                exact hK _ _ (below_al (Below.refl _ _) _) (newsRowR_mk _ _ HR.out.size)
            intro vs RW hR hF
            have q0 : vs 0 = .slice A10 (m + 1) c10 := hF 0 (by decide)
            have q1 : vs 1 = .slice (some ⟨lb, lo, none⟩) nl c6 := hF 1 (by decide)
            have q2 : vs 2 = .int .i64 (i : Int) := hF 2 (by decide)
            have q3 : vs 3 = .pointer (some ⟨lb, lo + i, none⟩) := hF 3 (by decide)
            have q4 : vs 4 = .int .i64 x := hF 4 (by decide)
            have q5 : vs 5 = .slice (some ⟨lb, lo, none⟩) nl c6 := hF 5 (by decide)
            have q6 : vs 6 = .int .i64 (i : Int) := hF 6 (by decide)
            have q7 : vs 7 = .pointer (some ⟨lb, lo + i, none⟩) := hF 7 (by decide)
            have q8 : vs 8 = .int .i64 x := hF 8 (by decide)
            have q9 : vs 9 = .agg #[.int .i64 x, .int .i64 x] := hF 9 (by decide)
            have F136 := Lib.hid (hF 10 (by decide))
            simp only [List.take_succ_cons, List.take_zero, List.drop_succ_cons, List.drop_zero, setAll, List.setIfInBounds_toArray, List.set_cons_zero, List.set_cons_succ, q0, q1, q2, q3, q4, q5, q6, q7, q8, q9]
            clear hF q0 q1 q2 q3 q4 q5 q6 q7 q8 q9
            generalize vs 10 = v136 at *
            clear vs
            have HO6 := Lib.hid (HO5.out.drew.below hR fun k hk => HO5.out.lt hk)
            have HB6 := Lib.hid ((Below.drew HB5.out).trans (hR.mono HB5.out.size))
            have hs6 := HB6.out.size
            clear hR cx5
            obtain ⟨gq, rfl, hgq, hbq⟩ := F136.out
            have HGQ := Lib.hid hgq
            clear hgq hbq F136
            go_wp2_with (at_builtin; refine wpList_append_mine _ rfl (.tmp 126) (.tmp 136) _ rfl 98 j0 _ 2 16 Try.underlying46 hj0 hy0 hy1 hy2 rfl (by omega) (.slice A10 (m + 1) c10) ((m + 1)) (flat O) rfl (by exact HO6.out) _ 1 1 [.int .i64 x, .int .i64 x] rfl rfl (by exact World.news_of_block (cs := #[.int .i64 x, .int .i64 x]) (fr := (0, 0)) (t := 98) HGQ.out) (by simp [Value.oneCell']) (by omega) (by simp only [maxLen]; omega) (by omega) _ rfl ?_; intro g7 o7 c7 w7 hown7 hgrow7 hat7; have HO7 := Lib.hid hown7; have HB7 := Lib.hid (Below.grown HB6.out hgrow7 hs6 HK3.out); have HK7 := Lib.hid (zs_far (o := o7) (n := (m + 1) + 1) (c := c7) (B := w2.heap.size) HK3.out hat7 hs6); clear hown7 hgrow7 hat7)
            have HM2 : Hid (MdS w2 (outF s hv l (i + 1)) (.slice (some ⟨g7, o7, none⟩) ((m + 1) + 1) c7) w7) := by
              refine ⟨?_, HK7.out, HB7.out⟩
              rw [HE.out]
              unfold SetV
              rw [List.length_append, List.length_singleton, HNO.out, flat, List.flatMap_append, ← flat]
              exact HO7.out
            go_roundw
            case rel => exact ⟨i + 1, by go_num, by omega, HM2.out⟩
            case measure => simp [intOf] <;> omega
          · have hpd : (hv != nt) = true := by simpa using hpn
            have HPD := Lib.hid hpd
            have hpd1 : (hv == nt) = false := by simpa using hpn
            have hpd2 : decide (hv = nt) = false := by simpa using hpn
            cases jn
            · have HE : Hid (outF s nt l (i + 1) = O ++ [(x, x)]) := by
                rw [← HOE.out]
                exact stepO_app HX.out HNT.out (fun h => by have := h.2; rw [HIJ.out, condO_eq HPP.out, HJN.out] at this; simp at this)
              go_upto_region 20 with fail
              go_quiet ((first | (go_at_call 49; exact quiet_left ((HHASQ.out _ _).mono fun e w' h => ⟨h.1.trans HHPV.out, h.2.symm⟩)) | (go_at_call 74; exact quiet_left ((HJOIQ.out _ _ HPB.out _).mono fun e w' h => ⟨h.1.trans HJV.out, h.2.symm⟩))))
              have HD5 := Lib.hid ((Drw.refl w4).more nq)
              generalize w4.drewN nq = w5 at HD5 ⊢
              have HO5 := Lib.hid (HD5.out.own HO3.out)
              have HB5 := Lib.hid (HD5.out.bel HB3.out)
              have cx5 := HD5.out.cell cx
              have hs5 := HD5.out.size
              have hlb5 : lb < w5.heap.size := by omega
              clear HHASQ HJOIQ
              go_upto_region 22 with fail
              refine region_tail 11 (by kernel_rfl) (by kernel_rfl) (fun W W' => Below W.heap.size W W')
                [.val (.slice A10 (m + 1) c10),
                 .val (.slice (some ⟨lb, lo, none⟩) nl c6),
                 .val (.int .i64 (i : Int)),
                 .val (.pointer (some ⟨lb, lo + i, none⟩)),
                 .val (.int .i64 x),
                 .val (.slice (some ⟨lb, lo, none⟩) nl c6),
                 .val (.int .i64 (i : Int)),
                 .val (.pointer (some ⟨lb, lo + i, none⟩)),
                 .val (.int .i64 x),
                 .val (.agg #[.int .i64 x, .int .i64 x]),
                 newsRowR w5.drew.heap.size #[.int .i64 x, .int .i64 x]]
                (fun W => Below.refl _ W) (fun _ _ _ h k => below_trans h k) (by kernel_rfl) ?_ ?_
              · refine ⟨?_, ?_, ?_, ?_, ?_, ?_, ?_, ?_, ?_, ?_, ?_, trivial⟩
                · intro ra RW hR hk hd K hK
                  obtain ⟨e10, g10⟩ := hk 10 (.slice A10 (m + 1) c10) (by kernel_rfl) rfl
                  clear hk hd
                  have HR := Lib.hid hR
                  clear hR
                  go_simp
                  exact hK _ _ (Below.refl _ _) rfl
                · intro ra RW hR hk hd K hK
                  obtain ⟨e6, g6⟩ := hk 6 (.slice (some ⟨lb, lo, none⟩) nl c6) (by kernel_rfl) rfl
                  clear hk hd
                  have HR := Lib.hid hR
                  clear hR
                  go_simp
                  exact hK _ _ (Below.refl _ _) rfl
                · intro ra RW hR hk hd K hK
                  obtain ⟨e11, g11⟩ := hk 11 (.int .i64 (i : Int)) (by kernel_rfl) rfl
                  clear hk hd
                  have HR := Lib.hid hR
                  clear hR
                  go_simp
                  exact hK _ _ (Below.refl _ _) rfl
                · intro ra RW hR hk hd K hK
                  obtain ⟨v127, e127, g127, f127⟩ := hd 1 127 (by kernel_rfl) rfl
                  have f127 : v127 = .slice (some ⟨lb, lo, none⟩) nl c6 := f127
                  subst f127
                  obtain ⟨v128, e128, g128, f128⟩ := hd 2 128 (by kernel_rfl) rfl
                  have f128 : v128 = .int .i64 (i : Int) := f128
                  subst f128
                  clear hk hd
                  have HR := Lib.hid hR
                  clear hR
                  go_simp
                  exact hK _ _ (Below.refl _ _) rfl
                · intro ra RW hR hk hd K hK
                  obtain ⟨v129, e129, g129, f129⟩ := hd 3 129 (by kernel_rfl) rfl
                  have f129 : v129 = .pointer (some ⟨lb, lo + i, none⟩) := f129
                  subst f129
                  clear hk hd
                  have HR := Lib.hid hR
                  clear hR
                  have dd0 := (HR.out.cell (p := ⟨lb, lo + i, none⟩) hlb5).trans cx5
                  go_simp
                  exact hK _ _ (Below.refl _ _) rfl
                · intro ra RW hR hk hd K hK
                  obtain ⟨e6, g6⟩ := hk 6 (.slice (some ⟨lb, lo, none⟩) nl c6) (by kernel_rfl) rfl
                  clear hk hd
                  have HR := Lib.hid hR
                  clear hR
                  go_simp
                  exact hK _ _ (Below.refl _ _) rfl
                · intro ra RW hR hk hd K hK
                  obtain ⟨e11, g11⟩ := hk 11 (.int .i64 (i : Int)) (by kernel_rfl) rfl
                  clear hk hd
                  have HR := Lib.hid hR
                  clear hR
                  go_simp
                  exact hK _ _ (Below.refl _ _) rfl
                · intro ra RW hR hk hd K hK
                  obtain ⟨v131, e131, g131, f131⟩ := hd 5 131 (by kernel_rfl) rfl
                  have f131 : v131 = .slice (some ⟨lb, lo, none⟩) nl c6 := f131
                  subst f131
                  obtain ⟨v132, e132, g132, f132⟩ := hd 6 132 (by kernel_rfl) rfl
                  have f132 : v132 = .int .i64 (i : Int) := f132
                  subst f132
                  clear hk hd
                  have HR := Lib.hid hR
                  clear hR
                  go_simp
                  exact hK _ _ (Below.refl _ _) rfl
                · intro ra RW hR hk hd K hK
                  obtain ⟨v133, e133, g133, f133⟩ := hd 7 133 (by kernel_rfl) rfl
                  have f133 : v133 = .pointer (some ⟨lb, lo + i, none⟩) := f133
                  subst f133
                  clear hk hd
                  have HR := Lib.hid hR
                  clear hR
                  have dd0 := (HR.out.cell (p := ⟨lb, lo + i, none⟩) hlb5).trans cx5
                  go_simp
                  exact hK _ _ (Below.refl _ _) rfl
                · intro ra RW hR hk hd K hK
                  obtain ⟨v130, e130, g130, f130⟩ := hd 4 130 (by kernel_rfl) rfl
                  have f130 : v130 = .int .i64 x := f130
                  subst f130
                  obtain ⟨v134, e134, g134, f134⟩ := hd 8 134 (by kernel_rfl) rfl
                  have f134 : v134 = .int .i64 x := f134
                  subst f134
                  clear hk hd
                  have HR := Lib.hid hR
                  clear hR
                  go_simp
                  exact hK _ _ (Below.refl _ _) rfl
                · intro ra RW hR hk hd K hK
                  obtain ⟨v135, e135, g135, f135⟩ := hd 9 135 (by kernel_rfl) rfl
                  have f135 : v135 = .agg #[.int .i64 x, .int .i64 x] := f135
                  subst f135
                  clear hk hd
                  have HR := Lib.hid hR
                  clear hR
                  go_simp
                  exact hK _ _ (below_al (Below.refl _ _) _) (newsRowR_mk _ _ HR.out.size)
              intro vs RW hR hF
              have q0 : vs 0 = .slice A10 (m + 1) c10 := hF 0 (by decide)
              have q1 : vs 1 = .slice (some ⟨lb, lo, none⟩) nl c6 := hF 1 (by decide)
              have q2 : vs 2 = .int .i64 (i : Int) := hF 2 (by decide)
              have q3 : vs 3 = .pointer (some ⟨lb, lo + i, none⟩) := hF 3 (by decide)
              have q4 : vs 4 = .int .i64 x := hF 4 (by decide)
              have q5 : vs 5 = .slice (some ⟨lb, lo, none⟩) nl c6 := hF 5 (by decide)
              have q6 : vs 6 = .int .i64 (i : Int) := hF 6 (by decide)
              have q7 : vs 7 = .pointer (some ⟨lb, lo + i, none⟩) := hF 7 (by decide)
              have q8 : vs 8 = .int .i64 x := hF 8 (by decide)
              have q9 : vs 9 = .agg #[.int .i64 x, .int .i64 x] := hF 9 (by decide)
              have F136 := Lib.hid (hF 10 (by decide))
              simp only [List.take_succ_cons, List.take_zero, List.drop_succ_cons, List.drop_zero, setAll, List.setIfInBounds_toArray, List.set_cons_zero, List.set_cons_succ, q0, q1, q2, q3, q4, q5, q6, q7, q8, q9]
              clear hF q0 q1 q2 q3 q4 q5 q6 q7 q8 q9
              generalize vs 10 = v136 at *
              clear vs
              have HO6 := Lib.hid (HO5.out.drew.below hR fun k hk => HO5.out.lt hk)
              have HB6 := Lib.hid ((Below.drew HB5.out).trans (hR.mono HB5.out.size))
              have hs6 := HB6.out.size
              clear hR cx5
              obtain ⟨gq, rfl, hgq, hbq⟩ := F136.out
              have HGQ := Lib.hid hgq
              clear hgq hbq F136
              go_wp2_with (at_builtin; refine wpList_append_mine _ rfl (.tmp 126) (.tmp 136) _ rfl 98 j0 _ 2 16 Try.underlying46 hj0 hy0 hy1 hy2 rfl (by omega) (.slice A10 (m + 1) c10) ((m + 1)) (flat O) rfl (by exact HO6.out) _ 1 1 [.int .i64 x, .int .i64 x] rfl rfl (by exact World.news_of_block (cs := #[.int .i64 x, .int .i64 x]) (fr := (0, 0)) (t := 98) HGQ.out) (by simp [Value.oneCell']) (by omega) (by simp only [maxLen]; omega) (by omega) _ rfl ?_; intro g7 o7 c7 w7 hown7 hgrow7 hat7; have HO7 := Lib.hid hown7; have HB7 := Lib.hid (Below.grown HB6.out hgrow7 hs6 HK3.out); have HK7 := Lib.hid (zs_far (o := o7) (n := (m + 1) + 1) (c := c7) (B := w2.heap.size) HK3.out hat7 hs6); clear hown7 hgrow7 hat7)
              have HM2 : Hid (MdS w2 (outF s nt l (i + 1)) (.slice (some ⟨g7, o7, none⟩) ((m + 1) + 1) c7) w7) := by
                refine ⟨?_, HK7.out, HB7.out⟩
                rw [HE.out]
                unfold SetV
                rw [List.length_append, List.length_singleton, HNO.out, flat, List.flatMap_append, ← flat]
                exact HO7.out
              go_roundw
              case rel => exact ⟨i + 1, by go_num, by omega, HM2.out⟩
              case measure => simp [intOf] <;> omega
            · have HE : Hid (outF s nt l (i + 1) = O.modify m (fun q => (q.1, x))) := by
                rw [← HOE.out]
                exact stepO_set HX.out HNT.out (by rw [HOE.out, HNO.out]) (by rw [HIJ.out, condO_eq HPP.out, HJN.out, HHV.out, HPD.out]; rfl)
              go_upto_region 20 with fail
              go_quiet ((first | (go_at_call 49; exact quiet_left ((HHASQ.out _ _).mono fun e w' h => ⟨h.1.trans HHPV.out, h.2.symm⟩)) | (go_at_call 74; exact quiet_left ((HJOIQ.out _ _ HPB.out _).mono fun e w' h => ⟨h.1.trans HJV.out, h.2.symm⟩))))
              have HD5 := Lib.hid ((Drw.refl w4).more nq)
              generalize w4.drewN nq = w5 at HD5 ⊢
              have HO5 := Lib.hid (HD5.out.own HO3.out)
              have HB5 := Lib.hid (HD5.out.bel HB3.out)
              have cx5 := HD5.out.cell cx
              have hs5 := HD5.out.size
              have hlb5 : lb < w5.heap.size := by omega
              obtain ⟨og, oo, oc, e1, hoc, -, hog, hocell, hofr⟩ := HO5.out.form (by omega)
              simp only [Value.slice.injEq, true_and] at e1
              obtain ⟨rfl, rfl⟩ := e1
              have z1 := hofr (oo + m * 2 + 1)
              have z2 := hocell (m * 2 + 1) (by omega)
              rw [← Nat.add_assoc] at z2
              have hfl : m * 2 + 1 < (flat O).length := by rw [flat_len, HNO.out]; omega
              rw [List.getElem?_eq_getElem hfl] at z2
              clear hocell hofr HHASQ HJOIQ
              go_wp2_with fail
              have hfin : MdS w2 (outF s nt l (i + 1)) (.slice (some ⟨og, oo, none⟩) (m + 1) c10) (w5.setCell ⟨og, oo + m * 2 + 1, none⟩ (.int .i64 x)) := by
                refine ⟨?_, HK3.out, HB5.out.setCell (p := ⟨og, oo + m * 2 + 1, none⟩) (HK3.out og (by simp [Value.ownBlock])) _⟩
                have h := HO5.out.store (m * 2 + 1) (by omega) (.int .i64 x)
                rw [flat_set O m (by rw [HNO.out]; omega)] at h
                rw [HE.out]
                unfold SetV
                rw [List.length_modify, HNO.out, Nat.add_assoc]
                exact h
              have HM2 := Lib.hid hfin
              clear hfin
              go_roundw
              case rel => exact ⟨i + 1, by go_num, by omega, HM2.out⟩
              case measure => simp [intOf] <;> omega
    · obtain rfl : i = nl := by omega
      have HOF : Hid (SetV w3 (.slice A10 no c10) (madeF s nt)) := by
        rw [HFIN.out, HOE.out]
        unfold SetV
        rw [HNO.out]
        exact HO3.out
      have HBF : Hid (Below w.heap.size w w3) := HB1.out.trans ((HB2.out.trans (HB3.out.mono hs2)).mono hs1)
      go_wp2_with fail
      go_ret
      exact ⟨_, rfl, HOF.out, fun k hk => by have := HK3.out k hk; omega, HBF.out⟩
end Go.Proofs.Ytjfkppbfckgckaa
