/-
  How long a tree is, and the contract of prog.Length; no condition beyond those that each theorem states.
-/
import Derived.Test.YtgfienopijlnkaaPar12
import Derived.Lib.MinMax
namespace Go.Proofs.Ytgfienopijlnkaa
open Go.RowKit Go.Rb
attribute [local irreducible] Go.wpQuiet

theorem flat_at {vs : List Value} (h5 : ∀ v ∈ vs, (cellsV v).length = 5) (i : Nat) (v : Value) (hv : vs[i]? = some v) (j : Nat) (hj : j < 5) : (vs.flatMap cellsV)[i * 5 + j]? = (cellsV v)[j]? := by
  induction vs generalizing i with
  | nil => simp at hv
  | cons a vs ih =>
    have ha := h5 a (by simp)
    cases i with
    | zero =>
      obtain rfl : a = v := by simpa using hv
      rw [List.flatMap_cons, Nat.zero_mul, Nat.zero_add, List.getElem?_append_left (by omega)]
    | succ i =>
      rw [List.flatMap_cons, List.getElem?_append_right (by omega), ha]
      have : (i + 1) * 5 + j - 5 = i * 5 + j := by omega
      rw [this]
      exact ih (fun v hv => h5 v (by simp [hv])) i (by simpa using hv)
/-- The trees that Parse makes (and others). -/
inductive OkN : Nd → Prop
  | mk (op mn mx : Int) (set : List (Int × Int)) (kids : List Nd) (h0 : 0 ≤ op ∧ op ≤ 6) (h6 : op = 6 → kids.length = 1 ∧ 0 ≤ mn ∧ mn ≤ 50 ∧ mx ≤ 50 ∧ (mx = -1 ∨ mn ≤ mx)) (h5 : op = 5 → 2 ≤ kids.length) (hl : kids.length ≤ 1000) (hs : set.length ≤ 1000) (hk : ∀ k ∈ kids, OkN k) : OkN (.mk op set mn mx kids)
def lenTop (op mn mx n all : Int) : Int :=
  if op = 0 then 0 else if op = 5 then min (all + 2 * (n - 1)) 1099511627776 else if op = 6 then min (if mx < 0 then (mn + 1) * all + 2 else mn * all + (mx - mn) * (all + 1)) 1099511627776 else if op = 4 then min all 1099511627776 else 1
mutual
def lenC : Nd → Int
  | .mk op _ mn mx kids => lenTop op mn mx kids.length (lenK kids 0)
def lenK : List Nd → Int → Int
  | [], acc => acc
  | k :: ks, acc => lenK ks (min (acc + lenC k) 1099511627776)
end
theorem lenK_bd (ks : List Nd) (hk : ∀ k ∈ ks, 0 ≤ lenC k ∧ lenC k ≤ 1099511627776) : ∀ acc : Int, 0 ≤ acc → acc ≤ 1099511627776 → 0 ≤ lenK ks acc ∧ lenK ks acc ≤ 1099511627776 := by
  induction ks with
  | nil => intro acc h1 h2; simp only [lenK]; omega
  | cons k ks ih =>
    intro acc h1 h2
    have := hk k (by simp)
    rw [lenK]
    exact ih (fun k hk' => hk k (by simp [hk'])) _ (by omega) (by omega)
theorem mulbd {a b : Int} {A B : Int} (h1 : 0 ≤ a) (h2 : a ≤ A) (h3 : 0 ≤ b) (h4 : b ≤ B) : 0 ≤ a * b ∧ a * b ≤ A * B :=
  ⟨Int.mul_nonneg h1 h3, Int.mul_le_mul h2 h4 h3 (by omega)⟩
theorem lenC_bd {n : Nd} (h : OkN n) : 0 ≤ lenC n ∧ lenC n ≤ 1099511627776 := by
  induction h with
  | mk op mn mx set kids h0 h6 h5 hl hs hk ih =>
    have hK := lenK_bd kids ih 0 (by omega) (by omega)
    rw [lenC, lenTop]
    by_cases e0 : op = 0
    · rw [if_pos e0]; omega
    rw [if_neg e0]
    by_cases e5 : op = 5
    · rw [if_pos e5]; have := h5 e5; omega
    rw [if_neg e5]
    by_cases e6 : op = 6
    · rw [if_pos e6]
      obtain ⟨_, b1, b2, b3, b4⟩ := h6 e6
      by_cases em : mx < 0
      · rw [if_pos em]
        have := mulbd (a := mn + 1) (b := lenK kids 0) (by omega) (show mn + 1 ≤ 51 by omega) hK.1 hK.2
        omega
      · rw [if_neg em]
        have e1 := mulbd (a := mn) (b := lenK kids 0) (by omega) b2 hK.1 hK.2
        have e2 := mulbd (a := mx - mn) (b := lenK kids 0 + 1) (A := 50) (B := 1099511627777) (by omega) (by omega) (by omega) (by omega)
        omega
    rw [if_neg e6]
    by_cases e4 : op = 4
    · rw [if_pos e4]; omega
    rw [if_neg e4]
    omega
theorem nd_cells {w : World} {S : Nat → Prop} {ns : List Nd} {vs : List Value} (hl : vs.length = ns.length) (hv : ∀ (i : Nat) (n : Nd), ns[i]? = some n → NdV w S (vs.getD i undef) n) : ∀ v ∈ vs, (cellsV v).length = 5 := by
  intro x hx
  obtain ⟨i, hi⟩ := List.mem_iff_getElem?.1 hx
  have hil := (List.getElem?_eq_some_iff.1 hi).1
  have h := hv i _ (List.getElem?_eq_getElem (by omega))
  rw [List.getD, hi] at h
  obtain ⟨a, A1, n1, m1, b, c, A4, n4, m4, e⟩ := h.parts
  simp only [Option.getD_some] at e
  subst e
  rfl
/-- The cells of the i-th kid. -/
theorem kid_cells {w W : World} {S : Nat → Prop} {ns : List Nd} {vs : List Value} {A : Option Addr} {c : Nat} (hl : vs.length = ns.length) (hO : Own w 28 5 (.slice A ns.length c) ns.length (vs.flatMap cellsV)) (hv : ∀ (i : Nat) (n : Nd), ns[i]? = some n → NdV w S (vs.getD i undef) n)
    (hb : Below w.heap.size w W) (i : Nat) (n : Nd) (hi : ns[i]? = some n) : ∃ b off x0 A1 n1 m1 x2 x3 A4 n4 m4, A = some ⟨b, off, none⟩ ∧ b < W.heap.size ∧ NdV W S (ndV x0 (.slice A1 n1 m1) x2 x3 (.slice A4 n4 m4)) n ∧
      W.cell? ⟨b, off + i * 5, none⟩ = some (.int .i64 x0) ∧ W.cell? ⟨b, off + i * 5 + 1, none⟩ = some (.slice A1 n1 m1) ∧ W.cell? ⟨b, off + i * 5 + 2, none⟩ = some (.int .i64 x2) ∧ W.cell? ⟨b, off + i * 5 + 3, none⟩ = some (.int .i64 x3) ∧ W.cell? ⟨b, off + i * 5 + 4, none⟩ = some (.slice A4 n4 m4) := by
  have hin := (List.getElem?_eq_some_iff.1 hi).1
  have h := hv i n hi
  obtain ⟨x0, A1, n1, m1, x2, x3, A4, n4, m4, e⟩ := h.parts
  rw [e] at h
  obtain ⟨b, off, hA, hbl, hc⟩ := hO.rd.2 (by omega)
  have hv5 := nd_cells hl hv
  have hvi : vs[i]? = some (ndV x0 (.slice A1 n1 m1) x2 x3 (.slice A4 n4 m4)) := by
    rw [List.getD, List.getElem?_eq_getElem (by omega)] at e
    rw [List.getElem?_eq_getElem (by omega)]
    simpa using e
  have key : ∀ j, j < 5 → W.cell? ⟨b, off + i * 5 + j, none⟩ = (cellsV (ndV x0 (.slice A1 n1 m1) x2 x3 (.slice A4 n4 m4)))[j]? := fun j hj => by
    rw [hb.cell (p := ⟨b, off + i * 5 + j, none⟩) hbl, Nat.add_assoc, hc (i * 5 + j) (by omega)]
    exact flat_at hv5 i _ hvi j hj
  exact ⟨b, off, x0, A1, n1, m1, x2, x3, A4, n4, m4, hA, Nat.lt_of_lt_of_le hbl hb.size, h.under hb, key 0 (by omega), key 1 (by omega), key 2 (by omega), key 3 (by omega), key 4 (by omega)⟩
theorem NdV.kids {w : World} {S : Nat → Prop} {v : Value} {op mn mx : Int} {set : List (Int × Int)} {kids : List Nd} (h : NdV w S v (.mk op set mn mx kids)) : ∃ A1 m1 A4 m4, v = ndV op (.slice A1 set.length m1) mn mx (.slice A4 kids.length m4) ∧ kids.length ≤ m4 ∧ SetV w (.slice A1 set.length m1) set ∧
    ∀ (W : World), Below w.heap.size w W → ∀ (i : Nat) (n : Nd), kids[i]? = some n → ∃ b off x0 A1 n1 m1 x2 x3 A5 n4 m4, A4 = some ⟨b, off, none⟩ ∧ b < W.heap.size ∧ NdV W S (ndV x0 (.slice A1 n1 m1) x2 x3 (.slice A5 n4 m4)) n ∧
      W.cell? ⟨b, off + i * 5, none⟩ = some (.int .i64 x0) ∧ W.cell? ⟨b, off + i * 5 + 1, none⟩ = some (.slice A1 n1 m1) ∧ W.cell? ⟨b, off + i * 5 + 2, none⟩ = some (.int .i64 x2) ∧ W.cell? ⟨b, off + i * 5 + 3, none⟩ = some (.int .i64 x3) ∧ W.cell? ⟨b, off + i * 5 + 4, none⟩ = some (.slice A5 n4 m4) := by
  cases h with
  | mk _ _ _ _ _ sv kv vs hs hl hk hkS hn =>
    obtain ⟨A1, m1, rfl, -, -⟩ := Own.len_ hs
    obtain ⟨A4, m4, rfl, hm4, -⟩ := hk.len_
    exact ⟨A1, m1, A4, m4, rfl, hm4, hs, fun W hW i n hi => kid_cells hl hk (fun i n hi => by obtain ⟨hil, rfl⟩ := List.getElem?_eq_some_iff.1 hi; exact hn i hil) hW i n hi⟩
theorem lenK_drop {kids : List Nd} {i : Nat} {k : Nd} {acc : Int} (hi : kids[i]? = some k) : lenK (kids.drop i) acc = lenK (kids.drop (i + 1)) (min (acc + lenC k) 1099511627776) := by
  obtain ⟨hil, rfl⟩ := List.getElem?_eq_some_iff.1 hi
  rw [List.drop_eq_getElem_cons hil, lenK]
set_option maxRecDepth 20000 in
set_option maxHeartbeats 2000000 in
theorem len_any {n : Nd} (hok : OkN n) : ∀ (w : World) (S : Nat → Prop) (v : Value), NdV w S v n → Calls Try.prog 9 #[v] w fun e w' => e = .returned (.int .i64 (lenC n)) ∧ Below w.heap.size w w' := by
  induction hok with
  | mk op mn mx set kids h0 h6 h5 hkl hsl hok ih =>
    intro w S v hv
    obtain ⟨A1, m1, A4, m4, rfl, hm4, hset, hkid⟩ := hv.kids
    have HKID := Lib.hid hkid
    have HIH := Lib.hid ih
    have HOK := Lib.hid hok
    have HH6 := Lib.hid h6
    have HH5 := Lib.hid h5
    obtain ⟨LK, hLK⟩ : ∃ LK, lenK kids 0 = LK := ⟨_, rfl⟩
    have HLK : Hid (lenK (kids.drop 0) 0 = LK) := hLK
    have HLB := Lib.hid (lenK_bd kids (fun k hk => lenC_bd (hok k hk)) 0 (by omega) (by omega))
    have HR : Hid (lenC (.mk op set mn mx kids) = lenTop op mn mx kids.length LK) := by show _ = _; rw [lenC, hLK]
    rw [hLK] at HLB
    obtain ⟨R, hR⟩ : ∃ R, lenC (.mk op set mn mx kids) = R := ⟨_, rfl⟩
    rw [hR] at HR ⊢
    clear hR hLK hkid ih hok h6 h5 hset
    obtain ⟨nk, hnk⟩ : ∃ nk, kids.length = nk := ⟨_, rfl⟩
    have HNK := Lib.hid hnk
    rw [hnk] at hm4 HR hkl HH5 HH6 ⊢
    clear hnk
    unfold ndV
    go_enter Try.func9, Try.ntmps9
    go_wp2_with fail
    go_loopw [3, 9] (fun av iv wr => ∃ (i : Nat) (acc : Int), av = .int .i64 acc ∧ iv = .int .i64 (i : Int) ∧ i ≤ nk ∧ 0 ≤ acc ∧ acc ≤ 1099511627776 ∧ Hid (Below w.heap.size w wr) ∧ Hid (Blk wr w.heap.size 28 #[.int .i64 op, .slice A1 set.length m1, .int .i64 mn, .int .i64 mx, .slice A4 nk m4]) ∧ Hid (lenK (kids.drop i) acc = LK)) (fun _ iv _ => nk - (intOf iv).toNat)
    case atStart => exact ⟨0, 0, rfl, rfl, by omega, by omega, by omega, below_al (Below.refl _ _) _, Blk.new _ _ _, HLK.out⟩
    case round =>
    obtain ⟨i, acc, rfl, rfl, hin, ha0, ha1, HB, HBK, HL⟩ := hrel
    have hlt := HBK.out.lt
    by_cases hi : i < nk
    · have hcl : i < kids.length := by rw [HNK.out]; exact hi
      obtain ⟨k, hk⟩ : ∃ k, kids[i]? = some k := ⟨_, List.getElem?_eq_getElem hcl⟩
      have hmem := List.mem_of_getElem? hk
      obtain ⟨b, off, x0, A5, n5, m5, x2, x3, A6, n6, m6, rfl, hb, hnv, c0, c1, c2, c3, c4⟩ := HKID.out wr HB.out i k hk
      have hbd := lenC_bd (HOK.out k hmem)
      have HL2 := Lib.hid ((lenK_drop (acc := acc) hk).symm.trans HL.out)
      have HC := Lib.hid (fun W (hW : Below wr.heap.size wr W) => HIH.out k hmem W S _ (hnv.under hW))
      obtain ⟨L, hL⟩ : ∃ L, lenC k = L := ⟨_, rfl⟩
      rw [hL] at hbd HL2 HC
      obtain ⟨hbd0, hbd1⟩ := hbd
      clear hL hk hmem hcl hnv HL HLK
      unfold ndV at HC
      go_wp2_with fail
      refine (HC.out _ (below_al (Below.refl _ _) _)).mono ?_
      rintro e1 w1 ⟨rfl, hb1⟩
      have HB1 := Lib.hid (HB.out.trans ((below_trans (below_al (Below.refl _ wr) (.cells #[.int .i64 x0, .slice A5 n5 m5, .int .i64 x2, .int .i64 x3, .slice A6 n6 m6] 28)) hb1).mono HB.out.size))
      have HBK1 := Lib.hid ((HBK.out.alloc (.cells #[.int .i64 x0, .slice A5 n5 m5, .int .i64 x2, .int .i64 x3, .slice A6 n6 m6] 28)).below hb1 (by simp; omega))
      clear hb1 HC
      go_wp2_with fail
      go_roundw
      case rel => exact ⟨i + 1, min (acc + L) 1099511627776, rfl, by go_num, by omega, by omega, by omega, HB1.out, HBK1.out, HL2.out⟩
      case measure => simp [intOf] <;> omega
    · obtain rfl : i = nk := by omega
      have hacc : acc = LK := by
        have := HL.out
        rw [List.drop_eq_nil_of_le (by rw [HNK.out]; omega), lenK] at this
        exact this
      subst hacc
      have y0 := HBK.out.cell 0
      have y2 := HBK.out.cell 2
      have y3 := HBK.out.cell 3
      have y4 := HBK.out.cell 4
      simp only [List.getElem?_toArray, List.getElem?_cons_succ, List.getElem?_cons_zero] at y0 y2 y3 y4
      clear HL HLB HLK
      by_cases e0 : op = 0
      · subst e0
        have HF : Hid (R = 0) := HR.out
        go_wp2_with fail
        go_ret
        exact ⟨by rw [HF.out]; rfl, HB.out⟩
      have F0 : (op == 0) = false := by simpa using e0
      by_cases e5 : op = 5
      · subst e5
        have h52 := HH5.out rfl
        have HF : Hid (R = min (acc + 2 * ((i : Int) - 1)) 1099511627776) := HR.out
        go_wp2_with fail
        go_ret
        exact ⟨by rw [HF.out]; rfl, HB.out⟩
      have F5 : (op == 5) = false := by simpa using e5
      by_cases e6 : op = 6
      · subst e6
        obtain ⟨_, b1, b2, b3, b4⟩ := HH6.out rfl
        by_cases em : mx < 0
        · have HF : Hid (R = min ((mn + 1) * acc + 2) 1099511627776) := by show _ = _; rw [HR.out, lenTop, if_neg (by decide), if_neg (by decide), if_pos rfl, if_pos em]
          obtain ⟨p1, p2⟩ := mulbd (a := mn + 1) (b := acc) (by omega) (show mn + 1 ≤ 51 by omega) ha0 ha1
          go_wp2_with fail
          go_ret
          exact ⟨by rw [HF.out]; rfl, HB.out⟩
        · have HF : Hid (R = min (mn * acc + (mx - mn) * (acc + 1)) 1099511627776) := by show _ = _; rw [HR.out, lenTop, if_neg (by decide), if_neg (by decide), if_pos rfl, if_neg em]
          obtain ⟨p1, p2⟩ := mulbd (a := mn) (b := acc) (by omega) b2 ha0 ha1
          obtain ⟨p3, p4⟩ := mulbd (a := mx - mn) (b := acc + 1) (A := 50) (B := 1099511627777) (by omega) (by omega) (by omega) (by omega)
          go_wp2_with fail
          go_ret
          exact ⟨by rw [HF.out]; rfl, HB.out⟩
      have F6 : (op == 6) = false := by simpa using e6
      by_cases e4 : op = 4
      · subst e4
        have HF : Hid (R = min acc 1099511627776) := HR.out
        go_wp2_with fail
        go_ret
        exact ⟨by rw [HF.out]; rfl, HB.out⟩
      have F4 : (op == 4) = false := by simpa using e4
      have HF : Hid (R = 1) := by show _ = _; rw [HR.out, lenTop, if_neg e0, if_neg e5, if_neg e6, if_neg e4]
      go_wp2_with fail
      go_ret
      exact ⟨by rw [HF.out]; rfl, HB.out⟩
end Go.Proofs.Ytgfienopijlnkaa
