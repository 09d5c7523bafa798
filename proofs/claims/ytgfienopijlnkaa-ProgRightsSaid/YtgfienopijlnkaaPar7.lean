/-
  The contract of reedbedref09.token at all heads but a class's and an escape's; no condition beyond those that each theorem states.
-/
import Derived.Test.YtgfienopijlnkaaPar6
namespace Go.Proofs.Ytgfienopijlnkaa
open Go.RowKit Go.Rb
attribute [local irreducible] Go.wpQuiet

def zTk : Tk := ⟨0, 0, [], 0, 0⟩
/-- The first token, where it's no class and no escape; 0: there is none. -/
def tok1 : List Int → Tk × Nat
  | [] => (zTk, 0)
  | x :: rest =>
    if x = 124 then (⟨1, 124, [], 0, 0⟩, 1) else if x = 40 then (⟨1, 40, [], 0, 0⟩, 1) else if x = 41 then (⟨1, 41, [], 0, 0⟩, 1)
    else if x = 94 then (⟨1, 94, [], 0, 0⟩, 1) else if x = 36 then (⟨1, 36, [], 0, 0⟩, 1)
    else if x = 42 then (⟨2, 0, [], 0, -1⟩, 1) else if x = 43 then (⟨2, 0, [], 1, -1⟩, 1) else if x = 63 then (⟨2, 0, [], 0, 1⟩, 1)
    else if x = 123 then (if (brc rest).2.2 = 0 then (zTk, 0) else (⟨2, 0, [], (brc rest).1, (brc rest).2.1⟩, (brc rest).2.2 + 1))
    else if x = 46 then (⟨0, 0, [(0, 9), (11, 1114111)], 0, 0⟩, 1) else if x = 93 then (zTk, 0) else if x = 125 then (zTk, 0)
    else (⟨0, 0, [(x, x)], 0, 0⟩, 1)
/-- What token answers. -/
def RetTk (w : World) (p : Tk × Nat) (e : Ending) (w' : World) : Prop := ∃ v, e = .returned (.tuple #[v, .int .i64 (p.2 : Int)]) ∧ Below w.heap.size w w' ∧ TkV w' v p.1
theorem tkv_sgn (w : World) (r : Int) : TkV w (sgnTok r) ⟨1, r, [], 0, 0⟩ := ⟨_, rfl, SetV.nil_ w⟩
theorem tkv_cnt (w : World) (a b : Int) : TkV w (cntTok a b) ⟨2, 0, [], a, b⟩ := ⟨_, rfl, SetV.nil_ w⟩
theorem tkv_zero (w : World) : TkV w zeroTok zTk := ⟨_, rfl, SetV.nil_ w⟩
theorem brc_bd (l : List Int) : (brc l).2.2 ≤ l.length := by
  obtain ⟨h1, h2, -, -⟩ := num_bd l
  obtain ⟨h3, h4, -, -⟩ := num_bd (l.drop ((num l).2 + 1))
  unfold brc
  repeat' split
  all_goals (try simp only)
  all_goals (try omega)
theorem token_any (x : Int) (rest : List Int) (A : Option Addr) (n c B : Nat) (w : World) (hr : Rd w B 1 A n ((x :: rest).map iV)) (hB : B ≤ w.heap.size) (hc : n ≤ c) (hn : n ≤ 1000) (h91 : x ≠ 91) (h92 : x ≠ 92) :
    Calls Try.prog 12 #[.slice A n c] w (RetTk w (tok1 (x :: rest))) := by
  obtain ⟨b, off, rfl, hb, hn1, c0⟩ := Rd.at0 hr
  have hl : (x :: rest).length = n := by simpa using hr.1
  have hb' : b < w.heap.size := by omega
  rw [tok1]
  by_cases h124 : x = 124
  · subst h124; rw [if_pos rfl]
    exact (token_s124 b off n c w hn1 hc hb' c0).mono fun e w' ⟨h, k⟩ => ⟨_, h, k, tkv_sgn _ _⟩
  rw [if_neg h124]
  by_cases h40 : x = 40
  · subst h40; rw [if_pos rfl]
    exact (token_s40 b off n c w hn1 hc hb' c0).mono fun e w' ⟨h, k⟩ => ⟨_, h, k, tkv_sgn _ _⟩
  rw [if_neg h40]
  by_cases h41 : x = 41
  · subst h41; rw [if_pos rfl]
    exact (token_s41 b off n c w hn1 hc hb' c0).mono fun e w' ⟨h, k⟩ => ⟨_, h, k, tkv_sgn _ _⟩
  rw [if_neg h41]
  by_cases h94 : x = 94
  · subst h94; rw [if_pos rfl]
    exact (token_s94 b off n c w hn1 hc hb' c0).mono fun e w' ⟨h, k⟩ => ⟨_, h, k, tkv_sgn _ _⟩
  rw [if_neg h94]
  by_cases h36 : x = 36
  · subst h36; rw [if_pos rfl]
    exact (token_s36 b off n c w hn1 hc hb' c0).mono fun e w' ⟨h, k⟩ => ⟨_, h, k, tkv_sgn _ _⟩
  rw [if_neg h36]
  by_cases h42 : x = 42
  · subst h42; rw [if_pos rfl]
    exact (token_c42 b off n c w hn1 hc hb' c0).mono fun e w' ⟨h, k⟩ => ⟨_, h, k, tkv_cnt _ _ _⟩
  rw [if_neg h42]
  by_cases h43 : x = 43
  · subst h43; rw [if_pos rfl]
    exact (token_c43 b off n c w hn1 hc hb' c0).mono fun e w' ⟨h, k⟩ => ⟨_, h, k, tkv_cnt _ _ _⟩
  rw [if_neg h43]
  by_cases h63 : x = 63
  · subst h63; rw [if_pos rfl]
    exact (token_c63 b off n c w hn1 hc hb' c0).mono fun e w' ⟨h, k⟩ => ⟨_, h, k, tkv_cnt _ _ _⟩
  rw [if_neg h63]
  by_cases h123 : x = 123
  · subst h123; rw [if_pos rfl]
    obtain ⟨A1, cc, hsl, hr1, hc1, -⟩ := rd_tail (P := Try.prog) 38 Try.underlying38 (fun W => by kernel_rfl) hr hc 1 (by omega)
    have hr2 : Rd w B 1 A1 (n - 1) (rest.map iV) := hr1
    have HB := fun W (hW : Below w.heap.size w W) => braces_any rest A1 (n - 1) cc B W (hr2.below (hW.mono hB)) (by have := hW.size; omega) hc1 (by omega)
    have hbd := brc_bd rest
    have hl2 : rest.length + 1 = n := by simpa using hl
    obtain ⟨p, hp⟩ : ∃ p, brc rest = p := ⟨_, rfl⟩
    obtain ⟨pa, pq, k⟩ := p
    rw [hp] at HB hbd
    rw [hp]
    simp only at hbd ⊢
    by_cases hk : k = 0
    · subst hk
      rw [if_pos rfl]
      have HZ : Hid (∀ W, Below w.heap.size w W → Calls Try.prog 17 #[.slice A1 (n - 1) cc] W fun e w' => w' = W.alloc (.cells #[.int .i64 0, .int .i64 0, .slice none 0 0, .int .i64 0, .int .i64 0] 43) ∧ e = .returned (.tuple #[.agg #[.int .i64 0, .int .i64 0, .slice none 0 0, .int .i64 0, .int .i64 0], .int .i64 0])) := fun W hW => (HB W hW).mono fun e w' ⟨cs, h1, h2, h3⟩ => by
        have e1 : zeroTok = .agg cs := h1
        unfold zeroTok at e1
        injection e1 with e1
        subst e1
        exact ⟨h2, h3⟩
      exact (token_brn b off n c w hn1 hc hb' c0 A1 _ cc hsl HZ).mono fun e w' ⟨h, k⟩ => ⟨_, h, k, tkv_zero _⟩
    · rw [if_neg hk]
      have HZ : Hid (∀ W, Below w.heap.size w W → Calls Try.prog 17 #[.slice A1 (n - 1) cc] W fun e w' => w' = W.alloc (.cells #[.int .i64 2, .int .i64 0, .slice none 0 0, .int .i64 pa, .int .i64 pq] 43) ∧ e = .returned (.tuple #[.agg #[.int .i64 2, .int .i64 0, .slice none 0 0, .int .i64 pa, .int .i64 pq], .int .i64 (k : Int)])) := fun W hW => (HB W hW).mono fun e w' ⟨cs, h1, h2, h3⟩ => by
        have e2 : (brcV (pa, pq, k)).1 = cntTok pa pq := if_neg hk
        rw [e2] at h1 h3
        have e1 : cntTok pa pq = .agg cs := h1
        unfold cntTok at e1
        injection e1 with e1
        subst e1
        exact ⟨h2, h3⟩
      exact (token_brk b off n c w hn1 hc hb' pa pq k hk (by omega) c0 A1 _ cc hsl HZ).mono fun e w' ⟨h, k⟩ => ⟨_, h, k, tkv_cnt _ _ _⟩
  rw [if_neg h123]
  by_cases h46 : x = 46
  · subst h46; rw [if_pos rfl]
    exact (token_dot b off n c w hn1 hc hb' c0)
  rw [if_neg h46]
  by_cases h93 : x = 93
  · subst h93; rw [if_pos rfl]
    exact (token_n93 b off n c w hn1 hc hb' c0).mono fun e w' ⟨h, k⟩ => ⟨_, h, k, tkv_zero _⟩
  rw [if_neg h93]
  by_cases h125 : x = 125
  · subst h125; rw [if_pos rfl]
    exact (token_n125 b off n c w hn1 hc hb' c0).mono fun e w' ⟨h, k⟩ => ⟨_, h, k, tkv_zero _⟩
  rw [if_neg h125]
  exact token_char b off n c w hn1 hc hb' x c0 (by simpa using h124) (by simpa using h40) (by simpa using h41) (by simpa using h94) (by simpa using h36) (by simpa using h42) (by simpa using h43) (by simpa using h63) (by simpa using h123) (by simpa using h46) (by simpa using h91) (by simpa using h92) (by simpa using h93) (by simpa using h125)
end Go.Proofs.Ytgfienopijlnkaa
