/-
  the contract of reedbedref09.token at a class and at an escape, and of all tokens; the trees of short texts are in order; no condition beyond those that each theorem states.
-/
import Derived.Test.YtjfkppbfckgckaaG17
import Derived.Test.YtjfkppbfckgckaaG14
import Derived.Test.YtjfkppbfckgckaaG18
set_option linter.unusedVariables false
set_option linter.unusedSimpArgs false
namespace Go.Proofs.Ytjfkppbfckgckaa
set_option maxRecDepth 20000
open Go.RowKit Go.Rb
attribute [local irreducible] Go.wpQuiet

/-- A token's set is small, its count in bounds. -/
def TkOk (t : Tk) : Prop := (t.kind = 0 → t.set.length ≤ 1000) ∧ (t.kind = 2 → 0 ≤ t.mn ∧ t.mn ≤ 50 ∧ t.mx ≤ 50 ∧ (t.mx = -1 ∨ t.mn ≤ t.mx))
/-- What is known of the first token. -/
def PT2 (x : List Int) (p : Tk × Nat) : Prop := p.2 ≤ x.length ∧ (p.2 ≠ 0 → okTk p.1 ∧ TkOk p.1)
theorem pt2_set {x : List Int} {s : List (Int × Int)} {k : Nat} (hk : k ≤ x.length) (hs : s.length ≤ 1000) : PT2 x (⟨0, 0, s, 0, 0⟩, k) :=
  ⟨hk, fun _ => ⟨.inl rfl, fun _ => hs, fun h => absurd h (by show ¬ (0 : Int) = 2; decide)⟩⟩
set_option maxHeartbeats 2000000 in
theorem token_cls (rest : List Int) (A : Option Addr) (n c B : Nat) (w : World) (hr : Rd w B 1 A n ((91 :: rest).map iV)) (hB : B ≤ w.heap.size) (hc : n ≤ c) (hn : n ≤ 60) :
    Calls Try.prog 36 #[.slice A n c] w fun e w' => ∃ p, PT2 (91 :: rest) p ∧ RetTk w p e w' := by
  obtain ⟨b, off, rfl, hb, hn1, c0⟩ := Rd.at0 hr
  have hl : rest.length + 1 = n := by simpa using hr.1
  have hb' : b < w.heap.size := by omega
  obtain ⟨A1, cc, hsl, hr1, hc1, -⟩ := rd_tail (P := Try.prog) 38 Try.underlying38 (fun W => by kernel_rfl) hr hc 1 (by omega)
  have hsl : ∀ W, (Instr.slice 38 (.slice (some ⟨b, off, none⟩) n c) (some (.int .i64 1)) none none).run Try.prog W = .ok (.slice A1 (n - 1) cc) W := hsl
  have hr2 : Rd w B 1 A1 (n - 1) (rest.map iV) := hr1
  have HC := Lib.hid (fun W (hW : Below w.heap.size w W) => cl_any rest A1 (n - 1) cc B W (hr2.below (hW.mono hB)) (by have := hW.size; omega) hc1 (by omega))
  have HL := Lib.hid hl
  have HAL := Lib.hid (below_al (Below.refl w.heap.size w) (.cells #[.int .i64 0, .int .i64 0, .slice none 0 0, .int .i64 0, .int .i64 0] 74))
  have HBK := Lib.hid (Blk.new w 74 #[.int .i64 0, .int .i64 0, .slice none 0 0, .int .i64 0, .int .i64 0])
  clear hr hr1 hr2 hl
  go_enter Try.func36, Try.ntmps36
  go_wp2_with fail
  refine (HC.out _ HAL.out).mono ?_
  rintro _ w1 ⟨v, s, k, rfl, hs, hb1, hk, hsl1⟩
  obtain ⟨Av, cv, rfl, -, -⟩ := Own.len_ hs
  have HS := Lib.hid hs
  have HB := Lib.hid (below_trans HAL.out hb1)
  have HSL := Lib.hid hsl1
  have hbk := HBK.out.below hb1 (by simp)
  have HBK1 := Lib.hid hbk
  have y0 := hbk.cell 0
  have y1 := hbk.cell 1
  have y2 := hbk.cell 2
  have y3 := hbk.cell 3
  have y4 := hbk.cell 4
  simp only [List.getElem?_toArray, List.getElem?_cons_succ, List.getElem?_cons_zero] at y0 y1 y2 y3 y4
  have z0 := hbk.frozen 0
  have z1 := hbk.frozen 1
  have z2 := hbk.frozen 2
  have z3 := hbk.frozen 3
  have z4 := hbk.frozen 4
  have hbl := hbk.lt
  have HNE : Hid ((Value.slice Av s.length cv).ownBlock ≠ some w.heap.size) := own_blk_ne hs hbk (by decide)
  clear hs hb1 hsl1 HC hsl c0 hbk
  by_cases hk0 : k = 0
  · subst hk0
    go_wp2_with fail
    have hb5 := (((((HBK1.out.set_ 0 (.int .i64 0)).set_ 1 (.int .i64 0)).set_ 2 (.slice none 0 0)).set_ 3 (.int .i64 0)).set_ 4 (.int .i64 0))
    have hs5 := (Own.setCell (p := ⟨w.heap.size, 4, none⟩) (Own.setCell (p := ⟨w.heap.size, 3, none⟩) (Own.setCell (p := ⟨w.heap.size, 2, none⟩) (Own.setCell (p := ⟨w.heap.size, 1, none⟩) (Own.setCell (p := ⟨w.heap.size, 0, none⟩) HS.out HNE.out (.int .i64 0)) HNE.out (.int .i64 0)) HNE.out (.slice none 0 0)) HNE.out (.int .i64 0)) HNE.out (.int .i64 0))
    have hl5 := (((((HB.out.setCell (p := ⟨w.heap.size, 0, none⟩) (Nat.le_refl _) (.int .i64 0)).setCell (p := ⟨w.heap.size, 1, none⟩) (Nat.le_refl _) (.int .i64 0)).setCell (p := ⟨w.heap.size, 2, none⟩) (Nat.le_refl _) (.slice none 0 0)).setCell (p := ⟨w.heap.size, 3, none⟩) (Nat.le_refl _) (.int .i64 0)).setCell (p := ⟨w.heap.size, 4, none⟩) (Nat.le_refl _) (.int .i64 0))
    generalize ((((w1.setCell ⟨w.heap.size, 0, none⟩ (.int .i64 0)).setCell ⟨w.heap.size, 1, none⟩ (.int .i64 0)).setCell ⟨w.heap.size, 2, none⟩ (.slice none 0 0)).setCell ⟨w.heap.size, 3, none⟩ (.int .i64 0)).setCell ⟨w.heap.size, 4, none⟩ (.int .i64 0) = w9 at hb5 hs5 hl5 ⊢
    have x0 := hb5.cell 0
    have x1 := hb5.cell 1
    have x2 := hb5.cell 2
    have x3 := hb5.cell 3
    have x4 := hb5.cell 4
    simp at x0 x1 x2 x3 x4
    have HS5 := Lib.hid hs5
    have HL5 := Lib.hid hl5
    clear hb5 hs5 hl5 y0 y1 y2 y3 y4 z0 z1 z2 z3 z4
    try simp only [Exit.inBlock, Exit.then]
    refine bodyPost_ret (by simp [results, Try.results36, go_sem, x0, x1, x2, x3, x4]; try rfl) rfl ?_
    exact ⟨(zTk, 0), ⟨Nat.zero_le _, fun h => absurd rfl h⟩, _, rfl, HL5.out, _, rfl, SetV.nil_ _⟩
  · have hkd : ((k : Int) == 0) = false := by rw [beq_eq_false_iff_ne]; omega
    go_wp2_with fail
    have hb5 := (((((HBK1.out.set_ 0 (.int .i64 0)).set_ 1 (.int .i64 0)).set_ 2 (.slice Av s.length cv)).set_ 3 (.int .i64 0)).set_ 4 (.int .i64 0))
    have hs5 := (Own.setCell (p := ⟨w.heap.size, 4, none⟩) (Own.setCell (p := ⟨w.heap.size, 3, none⟩) (Own.setCell (p := ⟨w.heap.size, 2, none⟩) (Own.setCell (p := ⟨w.heap.size, 1, none⟩) (Own.setCell (p := ⟨w.heap.size, 0, none⟩) HS.out HNE.out (.int .i64 0)) HNE.out (.int .i64 0)) HNE.out (.slice Av s.length cv)) HNE.out (.int .i64 0)) HNE.out (.int .i64 0))
    have hl5 := (((((HB.out.setCell (p := ⟨w.heap.size, 0, none⟩) (Nat.le_refl _) (.int .i64 0)).setCell (p := ⟨w.heap.size, 1, none⟩) (Nat.le_refl _) (.int .i64 0)).setCell (p := ⟨w.heap.size, 2, none⟩) (Nat.le_refl _) (.slice Av s.length cv)).setCell (p := ⟨w.heap.size, 3, none⟩) (Nat.le_refl _) (.int .i64 0)).setCell (p := ⟨w.heap.size, 4, none⟩) (Nat.le_refl _) (.int .i64 0))
    generalize ((((w1.setCell ⟨w.heap.size, 0, none⟩ (.int .i64 0)).setCell ⟨w.heap.size, 1, none⟩ (.int .i64 0)).setCell ⟨w.heap.size, 2, none⟩ (.slice Av s.length cv)).setCell ⟨w.heap.size, 3, none⟩ (.int .i64 0)).setCell ⟨w.heap.size, 4, none⟩ (.int .i64 0) = w9 at hb5 hs5 hl5 ⊢
    have x0 := hb5.cell 0
    have x1 := hb5.cell 1
    have x2 := hb5.cell 2
    have x3 := hb5.cell 3
    have x4 := hb5.cell 4
    simp at x0 x1 x2 x3 x4
    have HS5 := Lib.hid hs5
    have HL5 := Lib.hid hl5
    clear hb5 hs5 hl5 y0 y1 y2 y3 y4 z0 z1 z2 z3 z4
    try simp only [Exit.inBlock, Exit.then]
    refine bodyPost_ret (by simp [results, Try.results36, go_sem, x0, x1, x2, x3, x4]; try rfl) rfl ?_
    exact ⟨(⟨0, 0, s, 0, 0⟩, k + 1), pt2_set (by have := HL.out; simp only [List.length_cons]; omega) HSL.out, _, rfl, HL5.out, _, rfl, HS5.out⟩
set_option maxHeartbeats 2000000 in
theorem token_esc (rest : List Int) (A : Option Addr) (n c B : Nat) (w : World) (hr : Rd w B 1 A n ((92 :: rest).map iV)) (hB : B ≤ w.heap.size) (hc : n ≤ c) (hn : n ≤ 60) :
    Calls Try.prog 36 #[.slice A n c] w fun e w' => ∃ p, PT2 (92 :: rest) p ∧ RetTk w p e w' := by
  obtain ⟨b, off, rfl, hb, hn1, c0⟩ := Rd.at0 hr
  have hl : rest.length + 1 = n := by simpa using hr.1
  have hb' : b < w.heap.size := by omega
  have HL := Lib.hid hl
  cases rest with
  | nil =>
    obtain rfl : n = 1 := by simpa using hl.symm
    clear hr hl HL
    go_enter Try.func36, Try.ntmps36
    go_wp2_with fail
    go_returns
    exact ⟨(zTk, 0), ⟨Nat.zero_le _, fun h => absurd rfl h⟩, _, rfl, below_al (Below.refl w.heap.size w) _, _, rfl, SetV.nil_ _⟩
  | cons y rest =>
  have hn2 : 2 ≤ n := by simp only [List.length_cons] at hl; omega
  have hr2 := hr.2 (by omega)
  obtain ⟨b', off', e', -, hcell⟩ := hr2
  simp only [Option.some.injEq, Addr.mk.injEq, and_true] at e'
  obtain ⟨rfl, rfl⟩ := e'
  have c1 : w.cell? ⟨b, off + 1, none⟩ = some (.int .i64 y) := hcell 1 (by omega)
  have HE := Lib.hid (fun W => esc_any y W)
  have HAL := Lib.hid (below_al (Below.refl w.heap.size w) (.cells #[.int .i64 0, .int .i64 0, .slice none 0 0, .int .i64 0, .int .i64 0] 74))
  have HBK := Lib.hid (Blk.new w 74 #[.int .i64 0, .int .i64 0, .slice none 0 0, .int .i64 0, .int .i64 0])
  clear hr hl hcell
  go_enter Try.func36, Try.ntmps36
  go_wp2_with fail
  refine (HE.out _).mono ?_
  rintro _ w1 ⟨v, s, p, ok, rfl, hs, hb1, hl5, -⟩
  obtain ⟨Av, cv, rfl, -, -⟩ := Own.len_ hs
  have HS := Lib.hid hs
  have HB := Lib.hid (below_trans HAL.out hb1)
  have HSL := Lib.hid hl5
  have hbk := HBK.out.below hb1 (by simp)
  have HBK1 := Lib.hid hbk
  have y0 := hbk.cell 0
  have y1 := hbk.cell 1
  have y2 := hbk.cell 2
  have y3 := hbk.cell 3
  have y4 := hbk.cell 4
  simp only [List.getElem?_toArray, List.getElem?_cons_succ, List.getElem?_cons_zero] at y0 y1 y2 y3 y4
  have z0 := hbk.frozen 0
  have z1 := hbk.frozen 1
  have z2 := hbk.frozen 2
  have z3 := hbk.frozen 3
  have z4 := hbk.frozen 4
  have hbl := hbk.lt
  have HNE : Hid ((Value.slice Av s.length cv).ownBlock ≠ some w.heap.size) := own_blk_ne hs hbk (by decide)
  clear hs hb1 hl5 HE c0 c1 hbk
  cases ok
  · skip
    go_wp2_with fail
    have hb5 := (((((HBK1.out.set_ 0 (.int .i64 0)).set_ 1 (.int .i64 0)).set_ 2 (.slice none 0 0)).set_ 3 (.int .i64 0)).set_ 4 (.int .i64 0))
    have hs5 := (Own.setCell (p := ⟨w.heap.size, 4, none⟩) (Own.setCell (p := ⟨w.heap.size, 3, none⟩) (Own.setCell (p := ⟨w.heap.size, 2, none⟩) (Own.setCell (p := ⟨w.heap.size, 1, none⟩) (Own.setCell (p := ⟨w.heap.size, 0, none⟩) HS.out HNE.out (.int .i64 0)) HNE.out (.int .i64 0)) HNE.out (.slice none 0 0)) HNE.out (.int .i64 0)) HNE.out (.int .i64 0))
    have hl5 := (((((HB.out.setCell (p := ⟨w.heap.size, 0, none⟩) (Nat.le_refl _) (.int .i64 0)).setCell (p := ⟨w.heap.size, 1, none⟩) (Nat.le_refl _) (.int .i64 0)).setCell (p := ⟨w.heap.size, 2, none⟩) (Nat.le_refl _) (.slice none 0 0)).setCell (p := ⟨w.heap.size, 3, none⟩) (Nat.le_refl _) (.int .i64 0)).setCell (p := ⟨w.heap.size, 4, none⟩) (Nat.le_refl _) (.int .i64 0))
    generalize ((((w1.setCell ⟨w.heap.size, 0, none⟩ (.int .i64 0)).setCell ⟨w.heap.size, 1, none⟩ (.int .i64 0)).setCell ⟨w.heap.size, 2, none⟩ (.slice none 0 0)).setCell ⟨w.heap.size, 3, none⟩ (.int .i64 0)).setCell ⟨w.heap.size, 4, none⟩ (.int .i64 0) = w9 at hb5 hs5 hl5 ⊢
    have x0 := hb5.cell 0
    have x1 := hb5.cell 1
    have x2 := hb5.cell 2
    have x3 := hb5.cell 3
    have x4 := hb5.cell 4
    simp at x0 x1 x2 x3 x4
    have HS5 := Lib.hid hs5
    have HL5 := Lib.hid hl5
    clear hb5 hs5 hl5 y0 y1 y2 y3 y4 z0 z1 z2 z3 z4
    try simp only [Exit.inBlock, Exit.then]
    refine bodyPost_ret (by simp [results, Try.results36, go_sem, x0, x1, x2, x3, x4]; try rfl) rfl ?_
    exact ⟨(zTk, 0), ⟨Nat.zero_le _, fun h => absurd rfl h⟩, _, rfl, HL5.out, _, rfl, SetV.nil_ _⟩
  · skip
    go_wp2_with fail
    have hb5 := (((((HBK1.out.set_ 0 (.int .i64 0)).set_ 1 (.int .i64 0)).set_ 2 (.slice Av s.length cv)).set_ 3 (.int .i64 0)).set_ 4 (.int .i64 0))
    have hs5 := (Own.setCell (p := ⟨w.heap.size, 4, none⟩) (Own.setCell (p := ⟨w.heap.size, 3, none⟩) (Own.setCell (p := ⟨w.heap.size, 2, none⟩) (Own.setCell (p := ⟨w.heap.size, 1, none⟩) (Own.setCell (p := ⟨w.heap.size, 0, none⟩) HS.out HNE.out (.int .i64 0)) HNE.out (.int .i64 0)) HNE.out (.slice Av s.length cv)) HNE.out (.int .i64 0)) HNE.out (.int .i64 0))
    have hl5 := (((((HB.out.setCell (p := ⟨w.heap.size, 0, none⟩) (Nat.le_refl _) (.int .i64 0)).setCell (p := ⟨w.heap.size, 1, none⟩) (Nat.le_refl _) (.int .i64 0)).setCell (p := ⟨w.heap.size, 2, none⟩) (Nat.le_refl _) (.slice Av s.length cv)).setCell (p := ⟨w.heap.size, 3, none⟩) (Nat.le_refl _) (.int .i64 0)).setCell (p := ⟨w.heap.size, 4, none⟩) (Nat.le_refl _) (.int .i64 0))
    generalize ((((w1.setCell ⟨w.heap.size, 0, none⟩ (.int .i64 0)).setCell ⟨w.heap.size, 1, none⟩ (.int .i64 0)).setCell ⟨w.heap.size, 2, none⟩ (.slice Av s.length cv)).setCell ⟨w.heap.size, 3, none⟩ (.int .i64 0)).setCell ⟨w.heap.size, 4, none⟩ (.int .i64 0) = w9 at hb5 hs5 hl5 ⊢
    have x0 := hb5.cell 0
    have x1 := hb5.cell 1
    have x2 := hb5.cell 2
    have x3 := hb5.cell 3
    have x4 := hb5.cell 4
    simp at x0 x1 x2 x3 x4
    have HS5 := Lib.hid hs5
    have HL5 := Lib.hid hl5
    clear hb5 hs5 hl5 y0 y1 y2 y3 y4 z0 z1 z2 z3 z4
    try simp only [Exit.inBlock, Exit.then]
    refine bodyPost_ret (by simp [results, Try.results36, go_sem, x0, x1, x2, x3, x4]; try rfl) rfl ?_
    exact ⟨(⟨0, 0, s, 0, 0⟩, 2), pt2_set (by simp only [List.length_cons]; omega) (by have := HSL.out; omega), _, rfl, HL5.out, _, rfl, HS5.out⟩
theorem brc_ok (l : List Int) (h : (brc l).2.2 ≠ 0) : 0 ≤ (brc l).1 ∧ (brc l).1 ≤ 50 ∧ (brc l).2.1 ≤ 50 ∧ ((brc l).2.1 = -1 ∨ (brc l).1 ≤ (brc l).2.1) := by
  obtain ⟨-, -, h3, h4⟩ := num_bd l
  obtain ⟨-, -, h5, h6⟩ := num_bd (l.drop ((num l).2 + 1))
  have hz : ∀ q : Int × Int × Nat, q = (0, 0, 0) → q.2.2 ≠ 0 → False := fun q e h => by subst e; exact h rfl
  unfold brc at h ⊢
  by_cases h1 : (num l).2 = 0
  · rw [if_pos h1] at h; exact absurd rfl h
  rw [if_neg h1] at h ⊢
  by_cases h2 : l.length ≤ (num l).2
  · rw [if_pos h2] at h; exact absurd rfl h
  rw [if_neg h2] at h ⊢
  by_cases h3' : l.getD (num l).2 0 = 125
  · clear h; rw [if_pos h3']; simp only; omega
  rw [if_neg h3'] at h ⊢
  by_cases h4' : l.getD (num l).2 0 ≠ 44
  · rw [if_pos h4'] at h; exact absurd rfl h
  rw [if_neg h4'] at h ⊢
  by_cases h5' : l.length ≤ (num l).2 + 1
  · rw [if_pos h5'] at h; exact absurd rfl h
  rw [if_neg h5'] at h ⊢
  by_cases h6' : l.getD ((num l).2 + 1) 0 = 125
  · rw [if_pos h6']; exact ⟨h3, h4, (by decide : (-1 : Int) ≤ 50), .inl rfl⟩
  rw [if_neg h6'] at h ⊢
  by_cases h7 : (num (l.drop ((num l).2 + 1))).2 = 0
  · rw [if_pos h7] at h; exact absurd rfl h
  rw [if_neg h7] at h ⊢
  by_cases h8 : (num (l.drop ((num l).2 + 1))).1 < (num l).1
  · rw [if_pos h8] at h; exact absurd rfl h
  rw [if_neg h8] at h ⊢
  by_cases h9 : l.length ≤ (num l).2 + 1 + (num (l.drop ((num l).2 + 1))).2
  · rw [if_pos h9] at h; exact absurd rfl h
  rw [if_neg h9] at h ⊢
  by_cases h10 : l.getD ((num l).2 + 1 + (num (l.drop ((num l).2 + 1))).2) 0 ≠ 125
  · rw [if_pos h10] at h; exact absurd rfl h
  rw [if_neg h10]
  simp only
  omega
def PTok (p : Tk × Nat) : Prop := p.2 ≠ 0 → TkOk p.1
theorem ptok_ite {c : Prop} [Decidable c] {p q : Tk × Nat} (hp : c → PTok p) (hq : PTok q) : PTok (if c then p else q) := by
  split
  · exact hp ‹_›
  · exact hq
theorem tok1_ok (x : List Int) : PTok (tok1 x) := by
  cases x with
  | nil => exact fun h => absurd rfl h
  | cons a x =>
    have hz : PTok (zTk, 0) := fun h => absurd rfl h
    have hs : ∀ r, PTok (⟨1, r, [], 0, 0⟩, 1) := fun r _ => ⟨fun h => absurd h (by show ¬ (1 : Int) = 0; decide), fun h => absurd h (by show ¬ (1 : Int) = 2; decide)⟩
    have hcn : ∀ (a b : Int) (k : Nat), 0 ≤ a ∧ a ≤ 50 ∧ b ≤ 50 ∧ (b = -1 ∨ a ≤ b) → PTok (⟨2, 0, [], a, b⟩, k) := fun a b k h _ => ⟨fun h => absurd h (by show ¬ (2 : Int) = 0; decide), fun _ => h⟩
    have hse : ∀ s : List (Int × Int), s.length ≤ 1000 → PTok (⟨0, 0, s, 0, 0⟩, 1) := fun s hs _ => ⟨fun _ => hs, fun h => absurd h (by show ¬ (0 : Int) = 2; decide)⟩
    rw [tok1]
    refine ptok_ite (fun _ => hs _) ?_
    refine ptok_ite (fun _ => hs _) ?_
    refine ptok_ite (fun _ => hs _) ?_
    refine ptok_ite (fun _ => hs _) ?_
    refine ptok_ite (fun _ => hs _) ?_
    refine ptok_ite (fun _ => hcn _ _ _ (by decide)) ?_
    refine ptok_ite (fun _ => hcn _ _ _ (by decide)) ?_
    refine ptok_ite (fun _ => hcn _ _ _ (by decide)) ?_
    refine ptok_ite (fun _ => ?_) ?_
    · split
      · exact hz
      · exact hcn _ _ _ (brc_ok x ‹_›)
    refine ptok_ite (fun _ => hse _ (by simp)) ?_
    refine ptok_ite (fun _ => hz) ?_
    refine ptok_ite (fun _ => hz) ?_
    exact hse _ (by simp)
/-- All tokens of short texts. -/
theorem lexer2 : Lexer PT2 (fun x => x.length ≤ 60) where
  call := by
    intro x A n c B W hx hok hr hB hc hn
    have hl : x.length = n := by simpa using hr.1
    cases x with
    | nil => exact absurd rfl hx
    | cons a x =>
      by_cases h91 : a = 91
      · subst h91; exact token_cls x A n c B W hr hB hc (by omega)
      by_cases h92 : a = 92
      · subst h92; exact token_esc x A n c B W hr hB hc (by omega)
      exact (token_any a x A n c B W hr hB hc hn h91 h92).mono fun e w' h => ⟨_, ⟨(tok1_bd (a :: x) (by simp)).1, fun hk => ⟨(tok1_bd (a :: x) (by simp)).2 hk, tok1_ok (a :: x) hk⟩⟩, h⟩
  bd := fun x p hx h => ⟨h.1, fun hk => (h.2 hk).1⟩
  drop := fun x k h => by rw [List.length_drop]; omega
theorem lex_ok {rs : List Int} {l : List Tk} {x : List Int} (h : Lex PT2 rs l x) : ∀ t ∈ l, okTk t ∧ TkOk t := by
  induction h with
  | nil => intro t ht; simp at ht
  | snoc l x t k h hx hp hk ih =>
    intro u hu
    rcases List.mem_append.1 hu with hu | hu
    · exact ih u hu
    · obtain rfl : u = t := by simpa using hu
      exact hp.2 hk
end Go.Proofs.Ytjfkppbfckgckaa
namespace Go.Proofs.Ytjfkppbfckgckaa
set_option maxRecDepth 20000
open Go.RowKit Go.Rb
attribute [local irreducible] Go.wpQuiet

theorem zero_ok : OkN .zero := .mk _ _ _ _ _ (by decide) (fun h => absurd h (by decide)) (fun h => absurd h (by decide)) (by decide) (by decide) (fun k hk => by simp at hk)
theorem oneN_ok {op : Int} (h : op = 4 ∨ op = 5) {l : List Nd} (hl : ∀ n ∈ l, OkN n) (hlen : l.length ≤ 1000) : OkN (oneN op l) := by
  match l, hl, hlen with
  | [], _, _ => exact zero_ok
  | [n], hl, _ => exact hl n (by simp)
  | a :: b :: l, hl, hlen => exact .mk _ _ _ _ _ (by omega) (fun h => by omega) (fun _ => by simp) hlen (by simp) hl
theorem app_ok {l : List Nd} {n : Nd} (hl : ∀ n ∈ l, OkN n) (hn : OkN n) : ∀ m ∈ l ++ [n], OkN m := fun m hm => by
  rcases List.mem_append.1 hm with hm | hm
  · exact hl m hm
  · obtain rfl : m = n := by simpa using hm
    exact hn
theorem treeL_ok : ∀ (f : Nat) (l : List Tk) (deep i : Nat) (alts pieces : List Nd) (loose : Bool) (nd : Nd), (∀ t ∈ l, TkOk t) → (∀ n ∈ alts, OkN n) → (∀ n ∈ pieces, OkN n) → alts.length + pieces.length + f ≤ 900 → treeL f l deep i alts pieces loose = some nd → OkN nd
  | 0, l, deep, i, alts, pieces, loose, nd, hl, ha, hp, hb, h => by simp [treeL] at h
  | f + 1, l, deep, i, alts, pieces, loose, nd, hl, ha, hp, hb, h => by
    have leaf : ∀ (op : Int) (s : List (Int × Int)), 0 ≤ op ∧ op ≤ 4 → s.length ≤ 1000 → OkN (.mk op s 0 0 []) := fun op s h hs => .mk _ _ _ _ _ (by omega) (fun h => by omega) (fun h => by omega) (by simp) hs (fun k hk => by simp at hk)
    have h4 : OkN (oneN 4 pieces) := oneN_ok (.inl rfl) hp (by omega)
    rw [treeL] at h
    cases ht : l[i]? with
    | none =>
      rw [ht] at h
      obtain rfl := Option.some.inj h
      exact oneN_ok (.inr rfl) (app_ok ha h4) (by simp; omega)
    | some t =>
      rw [ht] at h
      simp only at h
      have htk := hl t (List.mem_of_getElem? ht)
      by_cases c1 : t.kind = 1 ∧ t.r = 124
      · rw [if_pos c1] at h
        exact treeL_ok f _ _ _ _ _ _ _ hl (app_ok ha h4) (fun n hn => by simp at hn) (by simp; omega) h
      rw [if_neg c1] at h
      by_cases c2 : t.kind = 2
      · rw [if_pos c2] at h
        cases loose with
        | false => simp at h
        | true =>
          simp only [if_true] at h
          cases hg : pieces.getLast? with
          | none => rw [hg] at h; simp at h
          | some kid =>
            rw [hg] at h
            simp only at h
            have hkid : OkN kid := hp kid (List.mem_of_getLast? hg)
            obtain ⟨b1, b2, b3, b4⟩ := htk.2 c2
            have h6 : OkN (.mk 6 [] t.mn t.mx [kid]) := .mk _ _ _ _ _ (by decide) (fun _ => ⟨rfl, b1, b2, b3, b4⟩) (fun h => absurd h (by decide)) (by simp) (by simp) (fun k hk => by
              obtain rfl : k = kid := by simpa using hk
              exact hkid)
            exact treeL_ok f _ _ _ _ _ _ _ hl ha (app_ok (fun n hn => hp n ((List.dropLast_sublist pieces).subset hn)) h6) (by simp; omega) h
      rw [if_neg c2] at h
      by_cases c0 : t.kind = 0
      · rw [if_pos c0] at h
        exact treeL_ok f _ _ _ _ _ _ _ hl ha (app_ok hp (leaf 1 t.set (by decide) (htk.1 c0))) (by simp; omega) h
      rw [if_neg c0] at h
      by_cases c94 : t.r = 94
      · rw [if_pos c94] at h
        exact treeL_ok f _ _ _ _ _ _ _ hl ha (app_ok hp (leaf 2 [] (by decide) (by simp))) (by simp; omega) h
      rw [if_neg c94] at h
      by_cases c36 : t.r = 36
      · rw [if_pos c36] at h
        exact treeL_ok f _ _ _ _ _ _ _ hl ha (app_ok hp (leaf 3 [] (by decide) (by simp))) (by simp; omega) h
      rw [if_neg c36] at h
      by_cases c41 : t.r = 41
      · rw [if_pos c41] at h; simp at h
      rw [if_neg c41] at h
      by_cases cc : closeF (l.drop i) 0 i < 0
      · rw [if_pos cc] at h; simp at h
      rw [if_neg cc] at h
      by_cases cd : deep + 1 > 10
      · rw [if_pos cd] at h; simp at h
      rw [if_neg cd] at h
      cases hq : treeL f ((l.take (closeF (l.drop i) 0 i).toNat).drop (i + 1)) (deep + 1) 0 [] [] false with
      | none => rw [hq] at h; simp at h
      | some n =>
        rw [hq] at h
        simp only at h
        have hn : OkN n := treeL_ok f _ _ _ [] [] false n (fun t ht => hl t (List.mem_of_mem_take (List.mem_of_mem_drop ht))) (fun n hn => by simp at hn) (fun n hn => by simp at hn) (by simp; omega) hq
        exact treeL_ok f _ _ _ _ _ _ _ hl ha (app_ok hp hn) (by simp; omega) h
theorem parse_ok (s : ByteArray) (hs : s.size ≤ 60) (w : World) : Calls Try.prog 22 #[.string s] w fun e w' => Below w.heap.size w w' ∧ ((∃ v nd, OkN nd ∧ e = .returned (.tuple #[v, .int .i64 0]) ∧ NdV w' (fun k => w.heap.size ≤ k) v nd) ∨ ((∃ k : Int, k ≠ 0 ∧ e = .returned (.tuple #[zeroNd, .int .i64 k])) ∧ True)) := by
  refine (parse_any lexer2 s (fun rs h => Nat.le_trans (pts_len h) hs) w).mono ?_
  rintro e w' ⟨hb, ⟨rs, l, nd, v, h1, h2, h3, h4, h5⟩ | ⟨-, h⟩ | ⟨h, -⟩⟩
  · have hbd := h2.bd lexer2
    have hlen := pts_len h1
    exact ⟨hb, .inl ⟨v, nd, treeL_ok _ l 0 0 [] [] false nd (fun t ht => (lex_ok h2 t ht).2) (fun n hn => by simp at hn) (fun n hn => by simp at hn) (by have := hbd.1; simp at this ⊢; omega) h3, h4, h5⟩⟩
  · exact ⟨hb, .inr ⟨⟨16, by decide, h⟩, trivial⟩⟩
  · exact ⟨hb, .inr ⟨⟨15, by decide, h⟩, trivial⟩⟩
/-- What made answers of a short text. -/
def RetM (w : World) (e : Ending) (w' : World) : Prop := Below w.heap.size w w' ∧ (e = .returned (.slice none 0 0) ∨ ∃ (A : Option Addr) (n c : Nat) (p : List Ins), e = .returned (.slice A n c) ∧ p.length = n ∧ 0 < n ∧ n ≤ 151 ∧ n ≤ c ∧ PRd w' w'.heap.size A p ∧ RightI p ∧ ∀ (i : Nat) (t : Ins), p[i]? = some t → t.set.length ≤ 1000)
theorem made2_any (s : ByteArray) (hs : s.size ≤ 60) (w : World) : Calls Try.prog 9 #[.string s] w (RetM w) := by
  refine (made_any (P := OkN) (Q := True) (fun nd h => okt_of h) (parse_ok s hs w)).mono ?_
  rintro e w' ⟨hb, ⟨h, -⟩ | ⟨v, nd, hok, hsm, rfl, hp, -⟩⟩
  · exact ⟨hb, .inl h⟩
  · obtain ⟨A, c, rfl, hc, hpr⟩ := ProgO.prd hp
    have hlen := small_len hok hsm
    have hr := nodeP_right hok
    exact ⟨hb, .inr ⟨A, _, c, _, rfl, rfl, by simp, by rw [List.length_append]; simp; omega, hc, hpr, hr.1, hr.2⟩⟩
end Go.Proofs.Ytjfkppbfckgckaa
