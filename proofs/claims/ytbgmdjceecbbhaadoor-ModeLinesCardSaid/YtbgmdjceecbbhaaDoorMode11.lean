/-
  The contract of context; what Add tells: plain; no condition beyond those that each theorem states.
-/
import Derived.Test.YtbgmdjceecbbhaaDoorMode10
namespace Go.Proofs.YtbgmdjceecbbhaaDoor
open Go.RowKit Go.Rb
attribute [local irreducible] Go.wpQuiet

theorem context_any (s : Ts) (r : Rc) (hit : Bool) (p : Nat) (hv : Value) (w : World) (h : Tr w p s hv) (hT : Tb w) (hp : 0 < p) (hx : I64 r.n ∧ r.t.length ≤ 60) (hh : ∀ x ∈ s.held, I64 x.n ∧ x.t.length ≤ 60) (hm : s.held.length ≤ 100) (hmore : s.more ≤ 1000) :
    Calls Tryd.prog 21 #[pp p, rcv r, .bool hit] w fun e w' => ∃ v hv', e = .returned v ∧ Own w' 9 1 v (ctx s r hit).1.length (lns (ctx s r hit).1) ∧ (∀ k, v.ownBlock = some k → w.heap.size ≤ k) ∧ Tr w' p (ctx s r hit).2 hv' ∧ (∀ k, hv'.ownBlock = some k → hv.ownBlock = some k ∨ w.heap.size ≤ k) ∧ Only (fun k => k = p ∨ hv.ownBlock = some k) w w' := by
  cases hit with
  | true =>
    refine (ctx_hit s r p hv w h hT hp hx hh hm).mono fun e w' ⟨v, he, ho, hk, ht, hon⟩ => ?_
    exact ⟨v, _, he, ho, hk, ht, fun k hk => by simp [Value.ownBlock] at hk, hon.mono (fun k _ h => .inl h)⟩
  | false =>
    have hf : (if false = true then (0 : Nat) else 1) = 1 := rfl
    by_cases h1 : 0 < s.more
    · have e : ctx s r false = (recL { s with more := s.more - 1 } r 45, told { s with more := s.more - 1 } r) := by unfold ctx; rw [if_neg (by decide), if_pos h1]
      rw [e]
      refine (ctx_more s r p hv w h hT hp hx h1 hmore).mono fun e w' ⟨v, he, ho, hk, ht, hon⟩ => ?_
      exact ⟨v, _, he, ho, hk, ht, fun k hk => .inl hk, hon.mono (fun k _ h => .inl h)⟩
    · by_cases h2 : 0 < s.before
      · by_cases h3 : (s.held.length : Int) = s.before
        · have e : ctx s r false = ([], { s with held := s.held.drop 1 ++ [r] }) := by unfold ctx; rw [if_neg (by decide), if_neg h1, if_pos h2, if_pos h3]
          rw [e]
          refine (ctx_drop s r p hv w h h1 h2 h3 hm).mono fun e w' ⟨hv', he, ht, hk, hon⟩ => ?_
          exact ⟨_, hv', he, Own.nil_ _ _ _, fun k hk => by simp [Value.ownBlock] at hk, ht, hk, hon⟩
        · have e : ctx s r false = ([], { s with held := s.held ++ [r] }) := by unfold ctx; rw [if_neg (by decide), if_neg h1, if_pos h2, if_neg h3]
          rw [e]
          refine (ctx_hold s r p hv w h h1 h2 h3 hm).mono fun e w' ⟨hv', he, ht, hk, hon⟩ => ?_
          exact ⟨_, hv', he, Own.nil_ _ _ _, fun k hk => by simp [Value.ownBlock] at hk, ht, hk, hon⟩
      · have e : ctx s r false = ([], s) := by unfold ctx; rw [if_neg (by decide), if_neg h1, if_neg h2]
        rw [e]
        refine (ctx_none s r p hv w h h1 h2).mono fun e w' ⟨he, ht, hb⟩ => ?_
        exact ⟨_, hv, he, Own.nil_ _ _ _, fun k hk => by simp [Value.ownBlock] at hk, ht, fun k hk => .inl hk, (Only.of_below hb).mono (fun k hk h => absurd h (by omega))⟩
def add (s : Ts) (r : Rc) (hs : List Ht) : List (List UInt8) × Ts :=
  if s.over then ([], s)
  else if s.tell = 0 then ((hs.filter (good r.t.length)).map (hline r), s)
  else if s.tell = 3 then ctx s r (decide (0 < (hs.filter (good r.t.length)).length))
  else if (hs.filter (good r.t.length)).length = 0 then ([], s)
  else if s.tell = 1 then ([line r 58], { s with over := true, enough := true })
  else ([], { s with records := s.records + 1, hits := s.hits + (hs.filter (good r.t.length)).length })
end Go.Proofs.YtbgmdjceecbbhaaDoor
