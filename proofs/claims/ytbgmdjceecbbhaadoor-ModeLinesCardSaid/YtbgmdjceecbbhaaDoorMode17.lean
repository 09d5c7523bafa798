/-
  The contracts of Add and End, joined; rows of records and hits, and how they lie; no condition beyond those that each theorem states.
-/
import Derived.Test.YtbgmdjceecbbhaaDoorAwake19
namespace Go.Proofs.YtbgmdjceecbbhaaDoor
open Go.RowKit Go.Rb
attribute [local irreducible] Go.wpQuiet

/-- What End tells. -/
def endL (s : Ts) : List (List UInt8) := if s.over = true ∨ s.tell ≠ 2 then [] else [cline s]
theorem end_any (s : Ts) (p : Nat) (hv : Value) (w : World) (h : Tr w p s hv) (hTb : Tb w) (hp : 0 < p) (hr : I64 s.records) (hh : I64 s.hits) :
    Calls Tryd.prog 13 #[pp p] w fun e w' => ∃ v, e = .returned v ∧ Own w' 9 1 v (endL s).length (lns (endL s)) ∧ (∀ k, v.ownBlock = some k → w.heap.size ≤ k) ∧ Tr w' p (ended s) (.slice none 0 0) ∧ Only (fun k => k = p) w w' := by
  by_cases hc : s.over = true ∨ s.tell ≠ 2
  · have e : endL s = [] := if_pos hc
    rw [e]
    refine (end_none s p hv w h hc).mono fun e w' ⟨he, ht, ho⟩ => ⟨_, he, Own.nil_ _ _ _, fun k hk => by simp [Value.ownBlock] at hk, ht, ho⟩
  · have e : endL s = [cline s] := if_neg hc
    rw [e]
    have h1 : s.over = false := by
      cases hb : s.over with
      | false => rfl
      | true => exact absurd (.inl hb) hc
    have h2 : s.tell = 2 := Classical.byContradiction fun h => hc (.inr h)
    exact end_count s p hv w h hTb hp h1 h2 hr hh
theorem add_plain (s : Ts) (r : Rc) (hs : List Ht) (A : Option Addr) (n c p : Nat) (hv : Value) (w : World) (h : Tr w p s hv) (hT : Tb w) (hp : 0 < p) (hx : I64 r.n ∧ r.t.length ≤ 60) (hl : hs.length = n) (hr : Rd w w.heap.size 2 A n (hts hs)) (hn : n ≤ 1000) (ht : s.tell = 0 ∨ s.tell = 1 ∨ s.tell = 2) (hc1 : 0 ≤ s.records ∧ s.records ≤ 1000) (hc2 : 0 ≤ s.hits ∧ s.hits ≤ 1000000) :
    Calls Tryd.prog 10 #[pp p, rcv r, .slice A n c] w fun e w' => ∃ v, e = .returned v ∧ Own w' 9 1 v (add s r hs).1.length (lns (add s r hs).1) ∧ (∀ k, v.ownBlock = some k → w.heap.size ≤ k) ∧ Tr w' p (add s r hs).2 hv ∧ Only (fun k => k = p) w w' := by
  cases hov : s.over with
  | true =>
    have e : add s r hs = ([], s) := by unfold add; rw [if_pos hov]
    rw [e]
    refine (add_over s r A n c p hv w h hov).mono fun e w' ⟨he, ht, hb⟩ => ⟨_, he, Own.nil_ _ _ _, fun k hk => by simp [Value.ownBlock] at hk, ht, (Only.of_below hb).mono (fun k hk h => absurd h (by omega))⟩
  | false =>
    have hov' : ¬ s.over = true := by rw [hov]; decide
    by_cases h0 : s.tell = 0
    · have e : add s r hs = ((hs.filter (good r.t.length)).map (hline r), s) := by unfold add; rw [if_neg hov', if_pos h0]
      rw [e]
      refine (add_all s r hs A n c p hv w h hT hp hx hl hr hn hov h0).mono fun e w' ⟨v, he, ho, hk, ht, hb⟩ => ⟨v, he, ho, hk, ht, (Only.of_below hb).mono (fun k hk h => absurd h (by omega))⟩
    · have h3 : ¬ s.tell = 3 := by omega
      by_cases hf : (hs.filter (good r.t.length)).length = 0
      · have e : add s r hs = ([], s) := by unfold add; rw [if_neg hov', if_neg h0, if_neg h3, if_pos hf]
        rw [e]
        refine (add_empty s r hs A n c p hv w h hT hp hx hl hr hn hov (by omega) hf).mono fun e w' ⟨he, ht, hb⟩ => ⟨_, he, Own.nil_ _ _ _, fun k hk => by simp [Value.ownBlock] at hk, ht, (Only.of_below hb).mono (fun k hk h => absurd h (by omega))⟩
      · by_cases h1 : s.tell = 1
        · have e : add s r hs = ([line r 58], { s with over := true, enough := true }) := by unfold add; rw [if_neg hov', if_neg h0, if_neg h3, if_neg hf, if_pos h1]
          rw [e]
          exact add_first s r hs A n c p hv w h hT hp hx hl hr hn hov h1 (by omega)
        · have e : add s r hs = ([], { s with records := s.records + 1, hits := s.hits + (hs.filter (good r.t.length)).length }) := by unfold add; rw [if_neg hov', if_neg h0, if_neg h3, if_neg hf, if_neg h1]
          rw [e]
          refine (add_count s r hs A n c p hv w h hT hp hx hl hr hn hov (by omega) (by omega) hc1 hc2).mono fun e w' ⟨he, ht, hb⟩ => ⟨_, he, Own.nil_ _ _ _, fun k hk => by simp [Value.ownBlock] at hk, ht, hb⟩
theorem add_any (s : Ts) (r : Rc) (hs : List Ht) (A : Option Addr) (n c p : Nat) (hv : Value) (w : World) (h : Tr w p s hv) (hT : Tb w) (hp : 0 < p) (hx : I64 r.n ∧ r.t.length ≤ 60) (hl : hs.length = n) (hr : Rd w w.heap.size 2 A n (hts hs)) (hn : n ≤ 1000) (ht : 0 ≤ s.tell ∧ s.tell ≤ 3) (hc1 : 0 ≤ s.records ∧ s.records ≤ 1000) (hc2 : 0 ≤ s.hits ∧ s.hits ≤ 1000000) (hh : ∀ x ∈ s.held, I64 x.n ∧ x.t.length ≤ 60) (hm : s.held.length ≤ 100) (hmore : s.more ≤ 1000) :
    Calls Tryd.prog 10 #[pp p, rcv r, .slice A n c] w fun e w' => ∃ v hv', e = .returned v ∧ Own w' 9 1 v (add s r hs).1.length (lns (add s r hs).1) ∧ (∀ k, v.ownBlock = some k → w.heap.size ≤ k) ∧ Tr w' p (add s r hs).2 hv' ∧ (∀ k, hv'.ownBlock = some k → hv.ownBlock = some k ∨ w.heap.size ≤ k) ∧ Only (fun k => k = p ∨ hv.ownBlock = some k) w w' := by
  by_cases h3 : s.tell = 3 ∧ s.over = false
  · have e : add s r hs = ctx s r (decide (0 < (hs.filter (good r.t.length)).length)) := by unfold add; rw [if_neg (by rw [h3.2]; decide), if_neg (by omega), if_pos h3.1]
    rw [e]
    exact add_ctx s r hs A n c p hv w h hT hp hx hl hr hn h3.2 h3.1 hh hm hmore
  · by_cases ht3 : s.tell = 3
    · have hov : s.over = true := by
        cases hb : s.over with
        | true => rfl
        | false => exact absurd ⟨ht3, hb⟩ h3
      have e : add s r hs = ([], s) := by unfold add; rw [if_pos hov]
      rw [e]
      refine (add_over s r A n c p hv w h hov).mono fun e w' ⟨he, ht, hb⟩ => ⟨_, _, he, Own.nil_ _ _ _, fun k hk => by simp [Value.ownBlock] at hk, ht, fun k hk => .inl hk, (Only.of_below hb).mono (fun k hk h => absurd h (by omega))⟩
    · refine (add_plain s r hs A n c p hv w h hT hp hx hl hr hn (by omega) hc1 hc2).mono fun e w' ⟨v, he, ho, hk, ht, hb⟩ => ⟨v, hv, he, ho, hk, ht, fun k hk => .inl hk, hb.mono (fun k _ h => .inl h)⟩

/-- A row: a record, and its hits. -/
structure Rw where
  r : Rc
  hs : List Ht
/-- The good hits. -/
def Rw.g (x : Rw) : List Ht := x.hs.filter (good x.r.t.length)
/-- Row j of a slice of rows lies so. -/
structure RwAt (w : World) (B : Nat) (pb po : Nat) (x : Rw) (Ah : Option Addr) (ch : Nat) : Prop where
  lt : pb < B
  c0 : w.cell? ⟨pb, po, none⟩ = some (.int .i64 x.r.n)
  c1 : w.cell? ⟨pb, po + 1, none⟩ = some (.int .i64 x.r.a)
  c2 : w.cell? ⟨pb, po + 2, none⟩ = some (.string (mk x.r.t))
  c3 : w.cell? ⟨pb, po + 3, none⟩ = some (.slice Ah x.hs.length ch)
  rd : Rd w B 2 Ah x.hs.length (hts x.hs)
  i64 : I64 x.r.n
theorem RwAt.below {w w' : World} {B C : Nat} {pb po : Nat} {x : Rw} {Ah : Option Addr} {ch : Nat} (h : RwAt w B pb po x Ah ch) (hb : Below C w w') (hB : B ≤ C) : RwAt w' B pb po x Ah ch :=
  have hl := h.lt
  ⟨h.lt, (hb.cell (p := ⟨pb, po, none⟩) (by show pb < C; omega)).trans h.c0, (hb.cell (p := ⟨pb, po + 1, none⟩) (by show pb < C; omega)).trans h.c1, (hb.cell (p := ⟨pb, po + 2, none⟩) (by show pb < C; omega)).trans h.c2, (hb.cell (p := ⟨pb, po + 3, none⟩) (by show pb < C; omega)).trans h.c3, h.rd.below (hb.mono hB), h.i64⟩
def Rws (w : World) (B : Nat) (A : Option Addr) (n : Nat) (l : List Rw) : Prop :=
  l.length = n ∧ ∀ j (h : j < l.length), ∃ pb po Ah ch, A = some ⟨pb, po, none⟩ ∧ RwAt w B pb (po + j * 4) l[j] Ah ch
theorem Rws.below {w w' : World} {B C : Nat} {A : Option Addr} {n : Nat} {l : List Rw} (h : Rws w B A n l) (hb : Below C w w') (hB : B ≤ C) : Rws w' B A n l :=
  ⟨h.1, fun j hj => let ⟨pb, po, Ah, ch, e, hx⟩ := h.2 j hj; ⟨pb, po, Ah, ch, e, hx.below hb hB⟩⟩
end Go.Proofs.YtbgmdjceecbbhaaDoor
