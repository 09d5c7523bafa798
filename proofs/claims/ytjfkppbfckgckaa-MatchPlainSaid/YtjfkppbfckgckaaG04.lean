/-
  the contract of reedbedref09.token where no class or escape stands; the contract of reedbedref09.token at a dot, a count in braces and at letters; the contract of reedbedref09.token at all heads but a class's and an escape's; trees as they lie in memory, and the contract of reedbedref09.one; tokens as they lie in memory, and the contract of reedbedref09.close; a slice of tokens of its own, and how it grows; slices of trees, and the contract of reedbedref09.one; how a slice of trees grows by one; no condition beyond those that each theorem states.
-/
import Derived.Test.YtjfkppbfckgckaaG03
set_option linter.unusedVariables false
set_option linter.unusedSimpArgs false
namespace Go.Proofs.Ytjfkppbfckgckaa
set_option maxRecDepth 20000
open Go.RowKit Go.Rb
attribute [local irreducible] Go.wpQuiet

/-- A token: what it is, its sign, its set, a count's bounds. -/
structure Tk where
  kind : Int
  r : Int
  set : List (Int × Int)
  mn : Int
  mx : Int
def flat (s : List (Int × Int)) : List Value := s.flatMap fun p => [.int .i64 p.1, .int .i64 p.2]
theorem flat_len (s : List (Int × Int)) : (flat s).length = s.length * 2 := by
  induction s with
  | nil => rfl
  | cons a s ih => rw [flat, List.flatMap_cons, List.length_append, ← flat, ih]; simp; omega
/-- A slice of its own that holds these ranges. -/
def SetV (w : World) (v : Value) (s : List (Int × Int)) : Prop := Own w 98 2 v s.length (flat s)
theorem SetV.nil_ (w : World) : SetV w (.slice none 0 0) [] := Own.nil_ _ _ _
theorem SetV.below {w w' : World} {v : Value} {s : List (Int × Int)} (h : SetV w v s) (hb : Below w.heap.size w w') : SetV w' v s := Own.below h hb (fun _ hk => Own.lt h hk)
theorem SetV.only {S : Nat → Prop} {w w' : World} {v : Value} {s : List (Int × Int)} (h : SetV w v s) (hb : Only S w w') (hs : ∀ k, v.ownBlock = some k → ¬ S k) : SetV w' v s := Own.only h hb hs
/-- How a token lies in its five cells. -/
def TkV (w : World) (v : Value) (t : Tk) : Prop := ∃ sv, v = .agg #[.int .i64 t.kind, .int .i64 t.r, sv, .int .i64 t.mn, .int .i64 t.mx] ∧ SetV w sv t.set
def sgnTok (r : Int) : Value := .agg #[.int .i64 1, .int .i64 r, .slice none 0 0, .int .i64 0, .int .i64 0]
set_option maxHeartbeats 400000 in
theorem token_s124 (b off n c : Nat) (w : World) (hn : 1 ≤ n) (hc : n ≤ c) (hb : b < w.heap.size) (c0 : w.cell? ⟨b, off, none⟩ = some (.int .i64 124)) : Calls Try.prog 36 #[.slice (some ⟨b, off, none⟩) n c] w fun e w' => e = .returned (.tuple #[sgnTok 124, .int .i64 1]) ∧ Below w.heap.size w w' := by
  go_enter Try.func36, Try.ntmps36
  go_wp2_with fail
  go_returns
  exact ⟨rfl, below_al (Below.refl _ _) _⟩
set_option maxHeartbeats 400000 in
theorem token_s40 (b off n c : Nat) (w : World) (hn : 1 ≤ n) (hc : n ≤ c) (hb : b < w.heap.size) (c0 : w.cell? ⟨b, off, none⟩ = some (.int .i64 40)) : Calls Try.prog 36 #[.slice (some ⟨b, off, none⟩) n c] w fun e w' => e = .returned (.tuple #[sgnTok 40, .int .i64 1]) ∧ Below w.heap.size w w' := by
  go_enter Try.func36, Try.ntmps36
  go_wp2_with fail
  go_returns
  exact ⟨rfl, below_al (Below.refl _ _) _⟩
set_option maxHeartbeats 400000 in
theorem token_s41 (b off n c : Nat) (w : World) (hn : 1 ≤ n) (hc : n ≤ c) (hb : b < w.heap.size) (c0 : w.cell? ⟨b, off, none⟩ = some (.int .i64 41)) : Calls Try.prog 36 #[.slice (some ⟨b, off, none⟩) n c] w fun e w' => e = .returned (.tuple #[sgnTok 41, .int .i64 1]) ∧ Below w.heap.size w w' := by
  go_enter Try.func36, Try.ntmps36
  go_wp2_with fail
  go_returns
  exact ⟨rfl, below_al (Below.refl _ _) _⟩
set_option maxHeartbeats 400000 in
theorem token_s94 (b off n c : Nat) (w : World) (hn : 1 ≤ n) (hc : n ≤ c) (hb : b < w.heap.size) (c0 : w.cell? ⟨b, off, none⟩ = some (.int .i64 94)) : Calls Try.prog 36 #[.slice (some ⟨b, off, none⟩) n c] w fun e w' => e = .returned (.tuple #[sgnTok 94, .int .i64 1]) ∧ Below w.heap.size w w' := by
  go_enter Try.func36, Try.ntmps36
  go_wp2_with fail
  go_returns
  exact ⟨rfl, below_al (Below.refl _ _) _⟩
set_option maxHeartbeats 400000 in
theorem token_s36 (b off n c : Nat) (w : World) (hn : 1 ≤ n) (hc : n ≤ c) (hb : b < w.heap.size) (c0 : w.cell? ⟨b, off, none⟩ = some (.int .i64 36)) : Calls Try.prog 36 #[.slice (some ⟨b, off, none⟩) n c] w fun e w' => e = .returned (.tuple #[sgnTok 36, .int .i64 1]) ∧ Below w.heap.size w w' := by
  go_enter Try.func36, Try.ntmps36
  go_wp2_with fail
  go_returns
  exact ⟨rfl, below_al (Below.refl _ _) _⟩
set_option maxHeartbeats 400000 in
theorem token_c42 (b off n c : Nat) (w : World) (hn : 1 ≤ n) (hc : n ≤ c) (hb : b < w.heap.size) (c0 : w.cell? ⟨b, off, none⟩ = some (.int .i64 42)) : Calls Try.prog 36 #[.slice (some ⟨b, off, none⟩) n c] w fun e w' => e = .returned (.tuple #[cntTok 0 (-1), .int .i64 1]) ∧ Below w.heap.size w w' := by
  go_enter Try.func36, Try.ntmps36
  go_wp2_with fail
  go_returns
  exact ⟨rfl, below_al (Below.refl _ _) _⟩
set_option maxHeartbeats 400000 in
theorem token_c43 (b off n c : Nat) (w : World) (hn : 1 ≤ n) (hc : n ≤ c) (hb : b < w.heap.size) (c0 : w.cell? ⟨b, off, none⟩ = some (.int .i64 43)) : Calls Try.prog 36 #[.slice (some ⟨b, off, none⟩) n c] w fun e w' => e = .returned (.tuple #[cntTok 1 (-1), .int .i64 1]) ∧ Below w.heap.size w w' := by
  go_enter Try.func36, Try.ntmps36
  go_wp2_with fail
  go_returns
  exact ⟨rfl, below_al (Below.refl _ _) _⟩
set_option maxHeartbeats 400000 in
theorem token_c63 (b off n c : Nat) (w : World) (hn : 1 ≤ n) (hc : n ≤ c) (hb : b < w.heap.size) (c0 : w.cell? ⟨b, off, none⟩ = some (.int .i64 63)) : Calls Try.prog 36 #[.slice (some ⟨b, off, none⟩) n c] w fun e w' => e = .returned (.tuple #[cntTok 0 1, .int .i64 1]) ∧ Below w.heap.size w w' := by
  go_enter Try.func36, Try.ntmps36
  go_wp2_with fail
  go_returns
  exact ⟨rfl, below_al (Below.refl _ _) _⟩
set_option maxHeartbeats 400000 in
theorem token_n93 (b off n c : Nat) (w : World) (hn : 1 ≤ n) (hc : n ≤ c) (hb : b < w.heap.size) (c0 : w.cell? ⟨b, off, none⟩ = some (.int .i64 93)) : Calls Try.prog 36 #[.slice (some ⟨b, off, none⟩) n c] w fun e w' => e = .returned (.tuple #[zeroTok, .int .i64 0]) ∧ Below w.heap.size w w' := by
  go_enter Try.func36, Try.ntmps36
  go_wp2_with fail
  go_returns
  exact ⟨rfl, below_al (Below.refl _ _) _⟩
set_option maxHeartbeats 400000 in
theorem token_n125 (b off n c : Nat) (w : World) (hn : 1 ≤ n) (hc : n ≤ c) (hb : b < w.heap.size) (c0 : w.cell? ⟨b, off, none⟩ = some (.int .i64 125)) : Calls Try.prog 36 #[.slice (some ⟨b, off, none⟩) n c] w fun e w' => e = .returned (.tuple #[zeroTok, .int .i64 0]) ∧ Below w.heap.size w w' := by
  go_enter Try.func36, Try.ntmps36
  go_wp2_with fail
  go_returns
  exact ⟨rfl, below_al (Below.refl _ _) _⟩
end Go.Proofs.Ytjfkppbfckgckaa
namespace Go.Proofs.Ytjfkppbfckgckaa
set_option maxRecDepth 20000
open Go.RowKit Go.Rb
attribute [local irreducible] Go.wpQuiet

theorem setv_lit (W : World) (cs : Array Value) (s : List (Int × Int)) (k : Nat) (hk : k = W.heap.size) (hs : cs.toList = flat s) (hl : s.length ≤ maxLen) :
    SetV (W.alloc (.cells cs 98)) (.slice (some ⟨k, 0, none⟩) s.length s.length) s := by
  subst hk
  have h := Own.lit W 98 2 s.length cs (by rw [← Array.length_toList, hs, flat_len]) hl
  rw [hs] at h
  exact h
theorem SetV.drew {w : World} {v : Value} {s : List (Int × Int)} (h : SetV w v s) : SetV w.drew v s := h
set_option maxHeartbeats 400000 in
theorem token_dot (b off n c : Nat) (w : World) (hn : 1 ≤ n) (hc : n ≤ c) (hb : b < w.heap.size) (c0 : w.cell? ⟨b, off, none⟩ = some (.int .i64 46)) : Calls Try.prog 36 #[.slice (some ⟨b, off, none⟩) n c] w fun e w' => ∃ v, e = .returned (.tuple #[v, .int .i64 1]) ∧ Below w.heap.size w w' ∧ TkV w' v ⟨0, 0, [(0, 9), (11, 1114111)], 0, 0⟩ := by
  go_enter Try.func36, Try.ntmps36
  go_wp2_with fail
  go_returns
  exact ⟨_, rfl, below_al (below_al (Below.refl _ _) _) _, _, rfl, setv_lit (w.alloc _) _ [(0, 9), (11, 1114111)] _ (by simp) rfl (by decide)⟩
set_option maxHeartbeats 400000 in
theorem token_char (b off n c : Nat) (w : World) (hn : 1 ≤ n) (hc : n ≤ c) (hb : b < w.heap.size) (x : Int) (c0 : w.cell? ⟨b, off, none⟩ = some (.int .i64 x)) (n124 : (x == 124) = false) (n40 : (x == 40) = false) (n41 : (x == 41) = false) (n94 : (x == 94) = false) (n36 : (x == 36) = false) (n42 : (x == 42) = false) (n43 : (x == 43) = false) (n63 : (x == 63) = false) (n123 : (x == 123) = false) (n46 : (x == 46) = false) (n91 : (x == 91) = false) (n92 : (x == 92) = false) (n93 : (x == 93) = false) (n125 : (x == 125) = false) : Calls Try.prog 36 #[.slice (some ⟨b, off, none⟩) n c] w fun e w' => ∃ v, e = .returned (.tuple #[v, .int .i64 1]) ∧ Below w.heap.size w w' ∧ TkV w' v ⟨0, 0, [(x, x)], 0, 0⟩ := by
  go_enter Try.func36, Try.ntmps36
  go_wp2_with fail
  go_region
  go_wp2_with fail
  go_returns
  exact ⟨_, rfl, Below.drew (below_al (below_al (Below.refl _ _) _) _), _, rfl, (setv_lit (w.alloc _) _ [(x, x)] _ (by simp) rfl (by show 1 ≤ maxLen; decide)).drew⟩
set_option maxHeartbeats 400000 in
theorem token_brn (b off n c : Nat) (w : World) (hn : 1 ≤ n) (hc : n ≤ c) (hb : b < w.heap.size) (c0 : w.cell? ⟨b, off, none⟩ = some (.int .i64 123)) (A1 : Option Addr) (nn cc : Nat) (hsl : ∀ W, (Instr.slice 38 (.slice (some ⟨b, off, none⟩) n c) (some (.int .i64 1)) none none).run Try.prog W = .ok (.slice A1 nn cc) W) (HB : Hid (∀ W, Below w.heap.size w W → Calls Try.prog 50 #[.slice A1 nn cc] W fun e w' => w' = W.alloc (.cells #[.int .i64 0, .int .i64 0, .slice none 0 0, .int .i64 0, .int .i64 0] 74) ∧ e = .returned (.tuple #[.agg #[.int .i64 0, .int .i64 0, .slice none 0 0, .int .i64 0, .int .i64 0], .int .i64 0]))) : Calls Try.prog 36 #[.slice (some ⟨b, off, none⟩) n c] w fun e w' => e = .returned (.tuple #[zeroTok, .int .i64 0]) ∧ Below w.heap.size w w' := by
  go_enter Try.func36, Try.ntmps36
  go_wp2_with fail
  refine (HB.out _ (below_al (Below.refl _ _) _)).mono ?_
  rintro e1 w1 ⟨rfl, rfl⟩
  clear HB hsl c0
  go_wp2_with fail
  go_returns
  exact ⟨rfl, below_al (below_al (below_al (Below.refl _ _) _) _) _⟩
set_option maxHeartbeats 400000 in
theorem token_brk (b off n c : Nat) (w : World) (hn : 1 ≤ n) (hc : n ≤ c) (hb : b < w.heap.size) (p q : Int) (k : Nat) (hk0 : k ≠ 0) (hk : k ≤ 1000) (c0 : w.cell? ⟨b, off, none⟩ = some (.int .i64 123)) (A1 : Option Addr) (nn cc : Nat) (hsl : ∀ W, (Instr.slice 38 (.slice (some ⟨b, off, none⟩) n c) (some (.int .i64 1)) none none).run Try.prog W = .ok (.slice A1 nn cc) W) (HB : Hid (∀ W, Below w.heap.size w W → Calls Try.prog 50 #[.slice A1 nn cc] W fun e w' => w' = W.alloc (.cells #[.int .i64 2, .int .i64 0, .slice none 0 0, .int .i64 p, .int .i64 q] 74) ∧ e = .returned (.tuple #[.agg #[.int .i64 2, .int .i64 0, .slice none 0 0, .int .i64 p, .int .i64 q], .int .i64 (k : Int)]))) : Calls Try.prog 36 #[.slice (some ⟨b, off, none⟩) n c] w fun e w' => e = .returned (.tuple #[cntTok p q, .int .i64 ((k : Int) + 1)]) ∧ Below w.heap.size w w' := by
  have K0 : ((k : Int) == 0) = false := by simp; omega
  go_enter Try.func36, Try.ntmps36
  go_wp2_with fail
  refine (HB.out _ (below_al (Below.refl _ _) _)).mono ?_
  rintro e1 w1 ⟨rfl, rfl⟩
  clear HB hsl c0
  go_wp2_with fail
  go_returns
  exact ⟨rfl, below_al (below_al (below_al (Below.refl _ _) _) _) _⟩
end Go.Proofs.Ytjfkppbfckgckaa
namespace Go.Proofs.Ytjfkppbfckgckaa
set_option maxRecDepth 20000
open Go.RowKit Go.Rb
attribute [local irreducible] Go.wpQuiet

def zTk : Tk := ⟨0, 0, [], 0, 0⟩
/-- The first token, where it's no class and no escape; 0: there is none. -/
def tok1 : List Int → Tk × Nat
  | [] => (zTk, 0)
  | x :: rest =>
    if x = 124 then (⟨1, 124, [], 0, 0⟩, 1) else if x = 40 then (⟨1, 40, [], 0, 0⟩, 1) else if x = 41 then (⟨1, 41, [], 0, 0⟩, 1)
    else if x = 94 then (⟨1, 94, [], 0, 0⟩, 1) else if x = 36 then (⟨1, 36, [], 0, 0⟩, 1)
    else if x = 42 then (⟨2, 0, [], 0, -1⟩, 1) else if x = 43 then (⟨2, 0, [], 1, -1⟩, 1) else if x = 63 then (⟨2, 0, [], 0, 1⟩, 1)
    else if x = 123 then (if (brc rest).2.2 = 0 then (zTk, 0) else (⟨2, 0, [], (brc rest).1, (brc rest).2.1⟩, (brc rest).2.2 + 1))
    else if x = 46 then (⟨0, 0, [(0, 9), (11, 1114111)], 0, 0⟩, 1) else if x = 93 then (zTk, 0) else if x = 125 then (zTk, 0)
    else (⟨0, 0, [(x, x)], 0, 0⟩, 1)
/-- What token answers. -/
def RetTk (w : World) (p : Tk × Nat) (e : Ending) (w' : World) : Prop := ∃ v, e = .returned (.tuple #[v, .int .i64 (p.2 : Int)]) ∧ Below w.heap.size w w' ∧ TkV w' v p.1
theorem tkv_sgn (w : World) (r : Int) : TkV w (sgnTok r) ⟨1, r, [], 0, 0⟩ := ⟨_, rfl, SetV.nil_ w⟩
theorem tkv_cnt (w : World) (a b : Int) : TkV w (cntTok a b) ⟨2, 0, [], a, b⟩ := ⟨_, rfl, SetV.nil_ w⟩
theorem tkv_zero (w : World) : TkV w zeroTok zTk := ⟨_, rfl, SetV.nil_ w⟩
theorem brc_bd (l : List Int) : (brc l).2.2 ≤ l.length := by
  obtain ⟨h1, h2, -, -⟩ := num_bd l
  obtain ⟨h3, h4, -, -⟩ := num_bd (l.drop ((num l).2 + 1))
  unfold brc
  repeat' split
  all_goals (try simp only)
  all_goals (try omega)
theorem token_any (x : Int) (rest : List Int) (A : Option Addr) (n c B : Nat) (w : World) (hr : Rd w B 1 A n ((x :: rest).map iV)) (hB : B ≤ w.heap.size) (hc : n ≤ c) (hn : n ≤ 1000) (h91 : x ≠ 91) (h92 : x ≠ 92) :
    Calls Try.prog 36 #[.slice A n c] w (RetTk w (tok1 (x :: rest))) := by
  obtain ⟨b, off, rfl, hb, hn1, c0⟩ := Rd.at0 hr
  have hl : (x :: rest).length = n := by simpa using hr.1
  have hb' : b < w.heap.size := by omega
  rw [tok1]
  by_cases h124 : x = 124
  · subst h124; rw [if_pos rfl]
    exact (token_s124 b off n c w hn1 hc hb' c0).mono fun e w' ⟨h, k⟩ => ⟨_, h, k, tkv_sgn _ _⟩
  rw [if_neg h124]
  by_cases h40 : x = 40
  · subst h40; rw [if_pos rfl]
    exact (token_s40 b off n c w hn1 hc hb' c0).mono fun e w' ⟨h, k⟩ => ⟨_, h, k, tkv_sgn _ _⟩
  rw [if_neg h40]
  by_cases h41 : x = 41
  · subst h41; rw [if_pos rfl]
    exact (token_s41 b off n c w hn1 hc hb' c0).mono fun e w' ⟨h, k⟩ => ⟨_, h, k, tkv_sgn _ _⟩
  rw [if_neg h41]
  by_cases h94 : x = 94
  · subst h94; rw [if_pos rfl]
    exact (token_s94 b off n c w hn1 hc hb' c0).mono fun e w' ⟨h, k⟩ => ⟨_, h, k, tkv_sgn _ _⟩
  rw [if_neg h94]
  by_cases h36 : x = 36
  · subst h36; rw [if_pos rfl]
    exact (token_s36 b off n c w hn1 hc hb' c0).mono fun e w' ⟨h, k⟩ => ⟨_, h, k, tkv_sgn _ _⟩
  rw [if_neg h36]
  by_cases h42 : x = 42
  · subst h42; rw [if_pos rfl]
    exact (token_c42 b off n c w hn1 hc hb' c0).mono fun e w' ⟨h, k⟩ => ⟨_, h, k, tkv_cnt _ _ _⟩
  rw [if_neg h42]
  by_cases h43 : x = 43
  · subst h43; rw [if_pos rfl]
    exact (token_c43 b off n c w hn1 hc hb' c0).mono fun e w' ⟨h, k⟩ => ⟨_, h, k, tkv_cnt _ _ _⟩
  rw [if_neg h43]
  by_cases h63 : x = 63
  · subst h63; rw [if_pos rfl]
    exact (token_c63 b off n c w hn1 hc hb' c0).mono fun e w' ⟨h, k⟩ => ⟨_, h, k, tkv_cnt _ _ _⟩
  rw [if_neg h63]
  by_cases h123 : x = 123
  · subst h123; rw [if_pos rfl]
    obtain ⟨A1, cc, hsl, hr1, hc1, -⟩ := rd_tail (P := Try.prog) 38 Try.underlying38 (fun W => by kernel_rfl) hr hc 1 (by omega)
    have hr2 : Rd w B 1 A1 (n - 1) (rest.map iV) := hr1
    have HB := fun W (hW : Below w.heap.size w W) => braces_any rest A1 (n - 1) cc B W (hr2.below (hW.mono hB)) (by have := hW.size; omega) hc1 (by omega)
    have hbd := brc_bd rest
    have hl2 : rest.length + 1 = n := by simpa using hl
    obtain ⟨p, hp⟩ : ∃ p, brc rest = p := ⟨_, rfl⟩
    obtain ⟨pa, pq, k⟩ := p
    rw [hp] at HB hbd
    rw [hp]
    simp only at hbd ⊢
    by_cases hk : k = 0
    · subst hk
      rw [if_pos rfl]
      have HZ : Hid (∀ W, Below w.heap.size w W → Calls Try.prog 50 #[.slice A1 (n - 1) cc] W fun e w' => w' = W.alloc (.cells #[.int .i64 0, .int .i64 0, .slice none 0 0, .int .i64 0, .int .i64 0] 74) ∧ e = .returned (.tuple #[.agg #[.int .i64 0, .int .i64 0, .slice none 0 0, .int .i64 0, .int .i64 0], .int .i64 0])) := fun W hW => (HB W hW).mono fun e w' ⟨cs, h1, h2, h3⟩ => by
        have e1 : zeroTok = .agg cs := h1
        unfold zeroTok at e1
        injection e1 with e1
        subst e1
        exact ⟨h2, h3⟩
      exact (token_brn b off n c w hn1 hc hb' c0 A1 _ cc hsl HZ).mono fun e w' ⟨h, k⟩ => ⟨_, h, k, tkv_zero _⟩
    · rw [if_neg hk]
      have HZ : Hid (∀ W, Below w.heap.size w W → Calls Try.prog 50 #[.slice A1 (n - 1) cc] W fun e w' => w' = W.alloc (.cells #[.int .i64 2, .int .i64 0, .slice none 0 0, .int .i64 pa, .int .i64 pq] 74) ∧ e = .returned (.tuple #[.agg #[.int .i64 2, .int .i64 0, .slice none 0 0, .int .i64 pa, .int .i64 pq], .int .i64 (k : Int)])) := fun W hW => (HB W hW).mono fun e w' ⟨cs, h1, h2, h3⟩ => by
        have e2 : (brcV (pa, pq, k)).1 = cntTok pa pq := if_neg hk
        rw [e2] at h1 h3
        have e1 : cntTok pa pq = .agg cs := h1
        unfold cntTok at e1
        injection e1 with e1
        subst e1
        exact ⟨h2, h3⟩
      exact (token_brk b off n c w hn1 hc hb' pa pq k hk (by omega) c0 A1 _ cc hsl HZ).mono fun e w' ⟨h, k⟩ => ⟨_, h, k, tkv_cnt _ _ _⟩
  rw [if_neg h123]
  by_cases h46 : x = 46
  · subst h46; rw [if_pos rfl]
    exact (token_dot b off n c w hn1 hc hb' c0)
  rw [if_neg h46]
  by_cases h93 : x = 93
  · subst h93; rw [if_pos rfl]
    exact (token_n93 b off n c w hn1 hc hb' c0).mono fun e w' ⟨h, k⟩ => ⟨_, h, k, tkv_zero _⟩
  rw [if_neg h93]
  by_cases h125 : x = 125
  · subst h125; rw [if_pos rfl]
    exact (token_n125 b off n c w hn1 hc hb' c0).mono fun e w' ⟨h, k⟩ => ⟨_, h, k, tkv_zero _⟩
  rw [if_neg h125]
  exact token_char b off n c w hn1 hc hb' x c0 (by simpa using h124) (by simpa using h40) (by simpa using h41) (by simpa using h94) (by simpa using h36) (by simpa using h42) (by simpa using h43) (by simpa using h63) (by simpa using h123) (by simpa using h46) (by simpa using h91) (by simpa using h92) (by simpa using h93) (by simpa using h125)
end Go.Proofs.Ytjfkppbfckgckaa
namespace Go.Proofs.Ytjfkppbfckgckaa
set_option maxRecDepth 20000
open Go.RowKit Go.Rb
attribute [local irreducible] Go.wpQuiet

theorem own_ne_ {w : World} {e1 e2 : TypeId} {s1 s2 n1 n2 k : Nat} {v1 v2 : Value} {xs ys : List Value} (h1 : Own w e1 s1 v1 n1 xs) (h2 : Own w e2 s2 v2 n2 ys) (hne : e1 ≠ e2) (hk : v1.ownBlock = some k) : v2.ownBlock ≠ some k := by
  intro hk2
  rcases h1.2 with ⟨rfl, _⟩ | ⟨g, off, cap, cur, rfl, hg, _⟩
  · simp [Value.ownBlock] at hk
  · rcases h2.2 with ⟨rfl, _⟩ | ⟨g2, off2, cap2, cur2, rfl, hg2, _⟩
    · simp [Value.ownBlock] at hk2
    · have e1 : g = k := by simpa [Value.ownBlock] using hk
      have e2 : g2 = k := by simpa [Value.ownBlock] using hk2
      subst e1 e2
      rw [hg] at hg2
      simp at hg2
      exact hne hg2.2
/-- A pattern's tree. -/
inductive Nd where
  | mk (op : Int) (set : List (Int × Int)) (mn mx : Int) (kids : List Nd)
def Nd.zero : Nd := .mk 0 [] 0 0 []
/-- The five cells of a node's value. -/
def cellsV : Value → List Value
  | .agg cs => cs.toList
  | _ => []
def ndV (op : Int) (sv : Value) (mn mx : Int) (kv : Value) : Value := .agg #[.int .i64 op, sv, .int .i64 mn, .int .i64 mx, kv]
def zeroNd : Value := ndV 0 (.slice none 0 0) 0 0 (.slice none 0 0)
/-- How a tree lies: all its blocks are in S. -/
inductive NdV (w : World) (S : Nat → Prop) : Value → Nd → Prop where
  | mk (op mn mx : Int) (set : List (Int × Int)) (kids : List Nd) (sv kv : Value) (vs : List Value)
      (hs : SetV w sv set) (hl : vs.length = kids.length)
      (hk : Own w 52 5 kv kids.length (vs.flatMap cellsV)) (hkS : ∀ k, kv.ownBlock = some k → S k)
      (hn : ∀ i, (h : i < kids.length) → NdV w S (vs.getD i undef) kids[i]) : NdV w S (ndV op sv mn mx kv) (.mk op set mn mx kids)
theorem NdV.under {w w' : World} {S : Nat → Prop} {v : Value} {n : Nd} (h : NdV w S v n) (hb : Below w.heap.size w w') : NdV w' S v n := by
  induction h with
  | mk op mn mx set kids sv kv vs h1 h3 h4 h5 _ ih => exact .mk op mn mx set kids sv kv vs (h1.below hb) h3 (h4.below hb fun k hk => h4.lt hk) h5 ih
theorem NdV.drew {w : World} {S : Nat → Prop} {v : Value} {n : Nd} (h : NdV w S v n) : NdV w.drew S v n := h.under (Below.drew (Below.refl _ w))
/-- A slice of nodes that is no part of the tree grows. -/
theorem NdV.grown {w w' : World} {S : Nat → Prop} {v pv : Value} {n : Nd} {m : Nat} {ys : List Value} (h : NdV w S v n) (hP : Own w 52 5 pv m ys) (hg : w.grownBy w' pv.ownBlock) (hs : ∀ k, S k → pv.ownBlock ≠ some k) : NdV w' S v n := by
  induction h with
  | mk op mn mx set kids sv kv vs h1 h3 h4 h5 _ ih => exact .mk op mn mx set kids sv kv vs (Own.grown h1 hg fun k hk e => own_ne_ h1 hP (by decide) hk e) h3 (h4.grown hg fun k hk => hs k (h5 k hk)) h5 ih
theorem NdV.mono {w : World} {S T : Nat → Prop} {v : Value} {n : Nd} (h : NdV w S v n) (hs : ∀ k, S k → k < w.heap.size → T k) : NdV w T v n := by
  induction h with
  | mk op mn mx set kids sv kv vs h1 h3 h4 h5 _ ih => exact .mk op mn mx set kids sv kv vs h1 h3 h4 (fun k hk => hs k (h5 k hk) (h4.lt hk)) ih
theorem NdV.zero (w : World) (S : Nat → Prop) : NdV w S zeroNd .zero :=
  .mk 0 0 0 [] [] _ _ [] (SetV.nil_ w) rfl (Own.nil_ _ _ _) (by simp [Value.ownBlock]) (fun i h => absurd h (by simp))
theorem NdV.form {w : World} {S : Nat → Prop} {v : Value} {n : Nd} (h : NdV w S v n) : ∃ a sv b c kv, v = ndV a sv b c kv := by
  cases h with
  | mk op mn mx set kids sv kv vs => exact ⟨op, sv, mn, mx, kv, rfl⟩

/-- One node, or more of them under an Op. -/
def oneV (op : Int) (lv : Value) : List Value → Value
  | [] => zeroNd
  | [v] => v
  | _ => ndV op (.slice none 0 0) 0 0 lv
set_option maxHeartbeats 400000 in
theorem one_0 (op : Int) (A : Option Addr) (c : Nat) (w : World) : Calls Try.prog 53 #[.int .i64 op, .slice A 0 c] w fun e w' => e = .returned zeroNd ∧ Below w.heap.size w w' := by
  unfold zeroNd ndV
  go_enter Try.func53, Try.ntmps53
  go_wp2_with fail
  go_returns
  exact ⟨rfl, below_al (Below.refl _ _) _⟩
set_option maxHeartbeats 400000 in
theorem one_more (op : Int) (A : Option Addr) (n c : Nat) (w : World) (hn : 2 ≤ n) : Calls Try.prog 53 #[.int .i64 op, .slice A n c] w fun e w' => e = .returned (ndV op (.slice none 0 0) 0 0 (.slice A n c)) ∧ Below w.heap.size w w' := by
  have F0 : ((n : Int) == 0) = false := by simp; omega
  have F1 : ((n : Int) == 1) = false := by simp; omega
  unfold ndV
  go_enter Try.func53, Try.ntmps53
  go_wp2_with fail
  go_returns
  exact ⟨rfl, below_al (Below.refl _ _) _⟩
set_option maxHeartbeats 400000 in
theorem one_1 (op : Int) (b off c : Nat) (w : World) (hb : b < w.heap.size) (hc : 1 ≤ c) (x0 x2 x3 : Int) (A1 A4 : Option Addr) (n1 m1 n4 m4 : Nat) (c0 : w.cell? ⟨b, off, none⟩ = some (.int .i64 x0)) (c1 : w.cell? ⟨b, off + 1, none⟩ = some (.slice A1 n1 m1)) (c2 : w.cell? ⟨b, off + 2, none⟩ = some (.int .i64 x2)) (c3 : w.cell? ⟨b, off + 3, none⟩ = some (.int .i64 x3)) (c4 : w.cell? ⟨b, off + 4, none⟩ = some (.slice A4 n4 m4)) :
    Calls Try.prog 53 #[.int .i64 op, .slice (some ⟨b, off, none⟩) 1 c] w fun e w' => e = .returned (ndV x0 (.slice A1 n1 m1) x2 x3 (.slice A4 n4 m4)) ∧ Below w.heap.size w w' := by
  unfold ndV
  go_enter Try.func53, Try.ntmps53
  go_wp2_with fail
  go_returns
  exact ⟨rfl, below_al (Below.refl _ _) _⟩
end Go.Proofs.Ytjfkppbfckgckaa
namespace Go.Proofs.Ytjfkppbfckgckaa
set_option maxRecDepth 20000
open Go.RowKit Go.Rb
attribute [local irreducible] Go.wpQuiet

/-- The i-th token behind a place. -/
def TkAt (w : World) (b off i : Nat) (t : Tk) : Prop := ∃ sv, w.cell? ⟨b, off + i * 5, none⟩ = some (.int .i64 t.kind) ∧ w.cell? ⟨b, off + i * 5 + 1, none⟩ = some (.int .i64 t.r) ∧
  w.cell? ⟨b, off + i * 5 + 2, none⟩ = some sv ∧ w.cell? ⟨b, off + i * 5 + 3, none⟩ = some (.int .i64 t.mn) ∧ w.cell? ⟨b, off + i * 5 + 4, none⟩ = some (.int .i64 t.mx) ∧ SetV w sv t.set
theorem TkAt.under {w w' : World} {b off i : Nat} {t : Tk} (h : TkAt w b off i t) (hb : b < w.heap.size) (hw : Below w.heap.size w w') : TkAt w' b off i t := by
  obtain ⟨sv, h0, h1, h2, h3, h4, h5⟩ := h
  exact ⟨sv, (hw.cell (p := ⟨b, _, none⟩) hb).trans h0, (hw.cell (p := ⟨b, _, none⟩) hb).trans h1, (hw.cell (p := ⟨b, _, none⟩) hb).trans h2, (hw.cell (p := ⟨b, _, none⟩) hb).trans h3, (hw.cell (p := ⟨b, _, none⟩) hb).trans h4, h5.below hw⟩
/-- A slice of tokens. -/
def TksR (w : World) (A : Option Addr) (l : List Tk) : Prop := l ≠ [] → ∃ b off, A = some ⟨b, off, none⟩ ∧ b < w.heap.size ∧ ∀ i t, l[i]? = some t → TkAt w b off i t
theorem TksR.under {w w' : World} {A : Option Addr} {l : List Tk} (h : TksR w A l) (hw : Below w.heap.size w w') : TksR w' A l := fun hl => by
  obtain ⟨b, off, hA, hb, ht⟩ := h hl
  exact ⟨b, off, hA, by have := hw.size; omega, fun i t hi => (ht i t hi).under hb hw⟩

/-- Where a parenthesis is closed, of the tokens from the i-th on; -1: nowhere. -/
def closeF : List Tk → Int → Int → Int
  | [], _, _ => -1
  | t :: ts, deep, i =>
    if t.kind = 1 then (if t.r = 40 then closeF ts (deep + 1) (i + 1) else if t.r = 41 then (if deep - 1 = 0 then i else closeF ts (deep - 1) (i + 1)) else closeF ts deep (i + 1))
    else closeF ts deep (i + 1)
set_option maxHeartbeats 1000000 in
theorem close_any (l : List Tk) (A : Option Addr) (n c a0 : Nat) (w : World) (hr : TksR w A l) (hl : l.length = n) (hn : n ≤ 1000) (hc : n ≤ c) (ha : a0 ≤ n) :
    Calls Try.prog 54 #[.slice A n c, .int .i64 (a0 : Int)] w fun e w' => e = .returned (.int .i64 (closeF (l.drop a0) 0 a0)) ∧ w' = w := by
  obtain ⟨R, hR⟩ : ∃ R, closeF (l.drop a0) 0 a0 = R := ⟨_, rfl⟩
  rw [hR]
  have HR := Lib.hid hR
  have HL := Lib.hid hl
  clear hR hl
  have HT := Lib.hid hr
  clear hr
  go_enter Try.func54, Try.ntmps54
  go_wp2_with fail
  go_loopw [5, 6] (fun dv iv wr => ∃ (i : Nat) (d : Int), dv = .int .i64 d ∧ iv = .int .i64 (i : Int) ∧ i ≤ n ∧ -1000 ≤ d + (i : Int) ∧ d ≤ (i : Int) ∧ - (i : Int) ≤ d ∧ wr = w ∧ Hid (closeF (l.drop i) d i = R)) (fun _ iv _ => n - (intOf iv).toNat)
  case atStart => exact ⟨a0, 0, rfl, rfl, ha, by omega, by omega, by omega, rfl, HR.out⟩
  case round =>
  obtain ⟨i, d, rfl, rfl, hin, hd0, hd1, hd2, rfl, hI⟩ := hrel
  by_cases hlt : i < n
  · have hcl : i < l.length := by rw [HL.out]; exact hlt
    obtain ⟨t, ht⟩ : ∃ t, l[i]? = some t := ⟨_, List.getElem?_eq_getElem hcl⟩
    obtain ⟨b, off, rfl, hb, hat⟩ := HT.out (fun e => by rw [e] at hcl; simp at hcl)
    obtain ⟨sv, c0, c1, -⟩ := hat i t ht
    have hI2 : closeF (t :: l.drop (i + 1)) d i = R := by rw [← hI.out, List.drop_eq_getElem_cons hcl, ← Option.some.inj ((List.getElem?_eq_getElem hcl).symm.trans ht)]
    rw [closeF] at hI2
    have HI2 := Lib.hid hI2
    clear hI2 hat ht hcl
    obtain ⟨kind, r, set, mn, mx⟩ := t
    simp only at c0 c1 HI2
    by_cases hk : kind = 1
    · subst hk
      rw [if_pos rfl] at HI2
      by_cases h40 : r = 40
      · subst h40
        rw [if_pos rfl] at HI2
        go_wp2_with fail
        go_roundw
        case rel => exact ⟨i + 1, d + 1, by go_num, by go_num, by omega, by omega, by omega, by omega, trivial, HI2.out⟩
        case measure => simp [intOf]; omega
      · rw [if_neg h40] at HI2
        by_cases h41 : r = 41
        · subst h41
          rw [if_pos rfl] at HI2
          by_cases hd : d - 1 = 0
          · rw [if_pos hd] at HI2
            obtain rfl : d = 1 := by omega
            go_wp2_with fail
            go_returns
            exact ⟨by rw [← HI2.out]; rfl, rfl⟩
          · rw [if_neg hd] at HI2
            have hd' : (d - 1 == 0) = false := by simpa using hd
            go_wp2_with fail
            go_roundw
            case rel => exact ⟨i + 1, d - 1, by go_num, by go_num, by omega, by omega, by omega, by omega, trivial, HI2.out⟩
            case measure => simp [intOf]; omega
        · rw [if_neg h41] at HI2
          go_wp2_with fail
          go_roundw
          case rel => exact ⟨i + 1, d, by go_num, by go_num, by omega, by omega, by omega, by omega, trivial, HI2.out⟩
          case measure => simp [intOf]; omega
    · rw [if_neg hk] at HI2
      go_wp2_with fail
      go_roundw
      case rel => exact ⟨i + 1, d, by go_num, by go_num, by omega, by omega, by omega, by omega, trivial, HI2.out⟩
      case measure => simp [intOf]; omega
  · have HF : Hid (R = -1) := by
      show R = -1
      rw [← hI.out, List.drop_eq_nil_of_le (by rw [HL.out]; omega)]
      rfl
    go_wp2_with fail
    go_returns
    exact ⟨by rw [HF.out]; rfl, rfl⟩
end Go.Proofs.Ytjfkppbfckgckaa
namespace Go.Proofs.Ytjfkppbfckgckaa
set_option maxRecDepth 20000
open Go.RowKit Go.Rb
attribute [local irreducible] Go.wpQuiet

def tkCells (t : Tk) (sv : Value) : List Value := [.int .i64 t.kind, .int .i64 t.r, sv, .int .i64 t.mn, .int .i64 t.mx]
/-- The cells of tokens whose sets are these slices. -/
def tkRow : List Tk → List Value → List Value
  | t :: ts, sv :: svs => tkCells t sv ++ tkRow ts svs
  | _, _ => []
theorem tkRow_snoc (l : List Tk) (svs : List Value) (h : svs.length = l.length) (t : Tk) (sv : Value) : tkRow (l ++ [t]) (svs ++ [sv]) = tkRow l svs ++ tkCells t sv := by
  induction l generalizing svs with
  | nil =>
    obtain rfl : svs = [] := List.eq_nil_of_length_eq_zero (by simpa using h)
    simp [tkRow]
  | cons a l ih =>
    cases svs with
    | nil => simp at h
    | cons b svs => simp only [List.cons_append, tkRow, ih svs (by simpa using h), List.append_assoc]
theorem tkRow_at (l : List Tk) (svs : List Value) (h : svs.length = l.length) (i : Nat) (t : Tk) (sv : Value) (ht : l[i]? = some t) (hs : svs[i]? = some sv) (j : Nat) (hj : j < 5) : (tkRow l svs)[i * 5 + j]? = (tkCells t sv)[j]? := by
  induction l generalizing svs i with
  | nil => simp at ht
  | cons a l ih =>
    cases svs with
    | nil => simp at h
    | cons b svs =>
      cases i with
      | zero =>
        simp at ht hs
        subst ht hs
        rw [tkRow, Nat.zero_mul, Nat.zero_add, List.getElem?_append_left (by simpa [tkCells] using hj)]
      | succ i =>
        rw [tkRow, List.getElem?_append_right (by simp [tkCells]; omega)]
        have : (i + 1) * 5 + j - (tkCells a b).length = i * 5 + j := by simp [tkCells]; omega
        rw [this]
        exact ih svs (by simpa using h) i (by simpa using ht) (by simpa using hs)
/-- A slice of its own that holds tokens. -/
def TksO (w : World) (v : Value) (l : List Tk) : Prop := ∃ svs : List Value, svs.length = l.length ∧ Own w 74 5 v l.length (tkRow l svs) ∧ ∀ (i : Nat) (t : Tk), l[i]? = some t → ∃ sv, svs[i]? = some sv ∧ SetV w sv t.set
theorem TksO.nil_ (w : World) : TksO w (.slice none 0 0) [] := ⟨[], rfl, Own.nil_ _ _ _, fun i t h => by simp at h⟩
theorem TksO.under {w w' : World} {v : Value} {l : List Tk} (h : TksO w v l) (hb : Below w.heap.size w w') : TksO w' v l := by
  obtain ⟨svs, h1, h2, h3⟩ := h
  refine ⟨svs, h1, h2.below hb fun k hk => h2.lt hk, fun i t hi => ?_⟩
  obtain ⟨sv, e, hs⟩ := h3 i t hi
  exact ⟨sv, e, hs.below hb⟩
theorem TksO.rd {w : World} {A : Option Addr} {n c : Nat} {l : List Tk} (h : TksO w (.slice A n c) l) : TksR w A l := fun hl => by
  obtain ⟨svs, h1, h2, h3⟩ := h
  have hp : 0 < l.length := by cases l with | nil => exact absurd rfl hl | cons a l => simp
  obtain ⟨A', c', e, -, -⟩ := h2.len_
  simp only [Value.slice.injEq] at e
  obtain ⟨rfl, rfl, rfl⟩ := e
  obtain ⟨b, off, hA, hb, hc⟩ := h2.rd.2 hp
  refine ⟨b, off, hA, hb, fun i t hi => ?_⟩
  obtain ⟨sv, e, hs⟩ := h3 i t hi
  have hil : i < l.length := (List.getElem?_eq_some_iff.1 hi).1
  have key : ∀ j, j < 5 → w.cell? ⟨b, off + i * 5 + j, none⟩ = (tkCells t sv)[j]? := fun j hj => by
    rw [Nat.add_assoc, hc (i * 5 + j) (by omega), tkRow_at l svs h1 i t sv hi e j hj]
  exact ⟨sv, key 0 (by omega), key 1 (by omega), key 2 (by omega), key 3 (by omega), key 4 (by omega), hs⟩

/-! ### the tree -/
def oneN (op : Int) : List Nd → Nd
  | [] => .zero
  | [n] => n
  | l => .mk op [] 0 0 l
/-- The tree of tokens from the i-th on, at a depth, with what there is so far. -/
def treeL : Nat → List Tk → Nat → Nat → List Nd → List Nd → Bool → Option Nd
  | 0, _, _, _, _, _, _ => none
  | f + 1, l, deep, i, alts, pieces, loose =>
    match l[i]? with
    | none => some (oneN 5 (alts ++ [oneN 4 pieces]))
    | some t =>
      if t.kind = 1 ∧ t.r = 124 then treeL f l deep (i + 1) (alts ++ [oneN 4 pieces]) [] false
      else if t.kind = 2 then (if loose then (match pieces.getLast? with
        | some kid => treeL f l deep (i + 1) alts (pieces.dropLast ++ [.mk 6 [] t.mn t.mx [kid]]) false
        | none => none) else none)
      else if t.kind = 0 then treeL f l deep (i + 1) alts (pieces ++ [.mk 1 t.set 0 0 []]) true
      else if t.r = 94 then treeL f l deep (i + 1) alts (pieces ++ [.mk 2 [] 0 0 []]) false
      else if t.r = 36 then treeL f l deep (i + 1) alts (pieces ++ [.mk 3 [] 0 0 []]) false
      else if t.r = 41 then none
      else if closeF (l.drop i) 0 i < 0 then none
      else if deep + 1 > 10 then none
      else match treeL f ((l.take (closeF (l.drop i) 0 i).toNat).drop (i + 1)) (deep + 1) 0 [] [] false with
        | none => none
        | some n => treeL f l deep ((closeF (l.drop i) 0 i).toNat + 1) alts (pieces ++ [n]) true
end Go.Proofs.Ytjfkppbfckgckaa
namespace Go.Proofs.Ytjfkppbfckgckaa
set_option maxRecDepth 20000
open Go.RowKit Go.Rb
attribute [local irreducible] Go.wpQuiet

theorem NdV.parts {w : World} {S : Nat → Prop} {v : Value} {n : Nd} (h : NdV w S v n) : ∃ a A1 n1 m1 b c A4 n4 m4, v = ndV a (.slice A1 n1 m1) b c (.slice A4 n4 m4) := by
  cases h with
  | mk op mn mx set kids sv kv vs h1 h3 h4 h5 h6 =>
    obtain ⟨A1, m1, rfl, -, -⟩ := Own.len_ h1
    obtain ⟨A4, m4, rfl, -, -⟩ := h4.len_
    exact ⟨_, _, _, _, _, _, _, _, _, rfl⟩
/-- A slice of its own that holds trees, whose blocks are in S. -/
def NdsO (w : World) (S : Nat → Prop) (v : Value) (ns : List Nd) : Prop := ∃ vs : List Value, vs.length = ns.length ∧ Own w 52 5 v ns.length (vs.flatMap cellsV) ∧ ∀ (i : Nat) (n : Nd), ns[i]? = some n → NdV w S (vs.getD i undef) n
theorem NdsO.nil_ (w : World) (S : Nat → Prop) : NdsO w S (.slice none 0 0) [] := ⟨[], rfl, Own.nil_ _ _ _, fun i n h => by simp at h⟩
theorem NdsO.under {w w' : World} {S : Nat → Prop} {v : Value} {ns : List Nd} (h : NdsO w S v ns) (hb : Below w.heap.size w w') : NdsO w' S v ns := by
  obtain ⟨vs, h1, h2, h3⟩ := h
  exact ⟨vs, h1, h2.below hb fun k hk => h2.lt hk, fun i n hi => (h3 i n hi).under hb⟩
theorem NdsO.mono {w : World} {S T : Nat → Prop} {v : Value} {ns : List Nd} (h : NdsO w S v ns) (hs : ∀ k, S k → k < w.heap.size → T k) : NdsO w T v ns := by
  obtain ⟨vs, h1, h2, h3⟩ := h
  exact ⟨vs, h1, h2, fun i n hi => (h3 i n hi).mono hs⟩
theorem NdsO.grown {w w' : World} {S : Nat → Prop} {v pv : Value} {ns : List Nd} {m : Nat} {ys : List Value} (h : NdsO w S v ns) (hP : Own w 52 5 pv m ys) (hg : w.grownBy w' pv.ownBlock) (hv : ∀ k, v.ownBlock = some k → pv.ownBlock ≠ some k) (hs : ∀ k, S k → pv.ownBlock ≠ some k) : NdsO w' S v ns := by
  obtain ⟨vs, h1, h2, h3⟩ := h
  exact ⟨vs, h1, h2.grown hg fun k hk => hv k hk, fun i n hi => (h3 i n hi).grown hP hg hs⟩
theorem NdsO.len_ {w : World} {S : Nat → Prop} {v : Value} {ns : List Nd} (h : NdsO w S v ns) : ∃ A c, v = .slice A ns.length c ∧ ns.length ≤ c := by
  obtain ⟨vs, h1, h2, h3⟩ := h
  obtain ⟨A, c, e, hc, -⟩ := h2.len_
  exact ⟨A, c, e, hc⟩
theorem one_any {w : World} {S T : Nat → Prop} {A : Option Addr} {c : Nat} {ns : List Nd} (op : Int) (h : NdsO w S (.slice A ns.length c) ns) (hS : ∀ k, S k → T k) (hT : ∀ k, (Value.slice A ns.length c).ownBlock = some k → T k) :
    Calls Try.prog 53 #[.int .i64 op, .slice A ns.length c] w fun e w' => ∃ v, e = .returned v ∧ Below w.heap.size w w' ∧ NdV w' T v (oneN op ns) := by
  match ns, h, hT with
  | [], h, _ => exact (one_0 op A c w).mono fun e w' ⟨h1, h2⟩ => ⟨_, h1, h2, NdV.zero _ _⟩
  | [n], h, _ =>
    obtain ⟨vs, h1, h2, h3⟩ := h
    obtain ⟨v, rfl⟩ : ∃ v, vs = [v] := by
      match vs, h1 with
      | [v], _ => exact ⟨v, rfl⟩
    have hn := h3 0 n rfl
    obtain ⟨a, A1, n1, m1, b, d, A4, n4, m4, rfl⟩ := hn.parts
    obtain ⟨g, off, hA, hg, hc⟩ := h2.rd.2 (by simp)
    obtain ⟨A', c', e, hcc, -⟩ := h2.len_
    simp only [Value.slice.injEq] at e
    obtain ⟨-, -, rfl⟩ := e
    subst hA
    refine (one_1 op g off c w hg (by simpa using hcc) a b d A1 A4 n1 m1 n4 m4 (hc 0 (by simp)) (hc 1 (by simp)) (hc 2 (by simp)) (hc 3 (by simp)) (hc 4 (by simp))).mono fun e w' ⟨k1, k2⟩ => ⟨_, k1, k2, ?_⟩
    exact (hn.mono fun k hk _ => hS k hk).under k2
  | n :: m :: ns, h, hT =>
    obtain ⟨vs, h1, h2, h3⟩ := h
    refine (one_more op A _ c w (by simp)).mono fun e w' ⟨k1, k2⟩ => ⟨_, k1, k2, ?_⟩
    refine NdV.under ?_ k2
    exact .mk op 0 0 [] (n :: m :: ns) _ _ vs (SetV.nil_ w) h1 h2 hT fun i hi => (h3 i _ (List.getElem?_eq_getElem hi)).mono fun k hk _ => hS k hk
end Go.Proofs.Ytjfkppbfckgckaa
namespace Go.Proofs.Ytjfkppbfckgckaa
set_option maxRecDepth 20000
open Go.RowKit Go.Rb
attribute [local irreducible] Go.wpQuiet

theorem nds_push {w : World} {T : Nat → Prop} {v x : Value} {ns : List Nd} {vs : List Value} {n : Nd} (hl : vs.length = ns.length) (hO : Own w 52 5 v (ns.length + 1) (vs.flatMap cellsV ++ cellsV x))
    (ho : ∀ (i : Nat) (m : Nd), ns[i]? = some m → NdV w T (vs.getD i undef) m) (hx : NdV w T x n) : NdsO w T v (ns ++ [n]) := by
  refine ⟨vs ++ [x], by simp [hl], ?_, fun i m hi => ?_⟩
  · have e : (vs ++ [x]).flatMap cellsV = vs.flatMap cellsV ++ cellsV x := by simp
    rw [e, List.length_append]
    exact hO
  · by_cases hin : i < ns.length
    · rw [List.getElem?_append_left hin] at hi
      have e : (vs ++ [x]).getD i undef = vs.getD i undef := by
        rw [List.getD, List.getD, List.getElem?_append_left (by omega)]
      rw [e]
      exact ho i m hi
    · have hi2 := (List.getElem?_eq_some_iff.1 hi).1
      obtain rfl : i = ns.length := by simp at hi2; omega
      rw [List.getElem?_append_right (Nat.le_refl _)] at hi
      obtain rfl : n = m := by simpa using hi
      have e : (vs ++ [x]).getD ns.length undef = x := by
        rw [List.getD, List.getElem?_append_right (by omega), hl]
        simp
      rw [e]
      exact hx
/-- What Tree answers. -/
def RetTree (w : World) (r : Option Nd) (e : Ending) (w' : World) : Prop := Below w.heap.size w w' ∧ match r with
  | some n => ∃ v, e = .returned (.tuple #[v, .bool true]) ∧ NdV w' (fun k => w.heap.size ≤ k) v n
  | none => e = .returned (.tuple #[zeroNd, .bool false])
/-- At a depth of more than ten parentheses there is none. -/
theorem tree_deep (A : Option Addr) (n c : Nat) (d : Int) (w : World) (hd : 10 < d) : Calls Try.prog 37 #[.slice A n c, .int .i64 d] w (RetTree w none) := by
  go_enter Try.func37, Try.ntmps37
  go_wp2_with fail
  go_returns
  exact ⟨below_al (Below.refl _ _) _, rfl⟩
end Go.Proofs.Ytjfkppbfckgckaa
