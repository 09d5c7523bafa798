/-
  What Next gives, in plain Lean; the source beside a law's own memory ('InS'); the contract of reedbedlaw05.awake: it returns true; no condition beyond those that each theorem states.
-/
import Derived.Test.YtnigmfjghapfgaaSink1
import Derived.Lib.SlBytesConst
namespace Go.Proofs.Ytnigmfjghapfgaa
open Go.RowKit Go.Rb

theorem nx_wf {s : SS} (hw : Wf s) {q : List UInt8} {rest : List (List UInt8)} (hps : s.ps = q :: rest) {n : Nat} (hn : n ≤ q.length) :
    Wf (nxS s n q rest) ∧ (nxS s n q rest).ps.flatten = s.ps.flatten.drop n ∧ q.take n = s.ps.flatten.take n := by
  have hf : (nxS s n q rest).ps.flatten = s.ps.flatten.drop n := by
    rw [hps, List.flatten_cons, List.drop_append_of_le_length hn]
    unfold nxS
    by_cases h : n = q.length
    · simp only [if_pos h]; subst h; simp
    · simp only [if_neg h]; simp
  refine ⟨⟨fun r hr => ?_, ?_⟩, hf, ?_⟩
  · unfold nxS at hr
    by_cases h : n = q.length
    · simp only [if_pos h] at hr; exact hw.ne r (by rw [hps]; exact List.mem_cons_of_mem _ hr)
    · simp only [if_neg h] at hr
      rcases List.mem_cons.1 hr with rfl | hr
      · intro e
        have := congrArg List.length e
        simp at this; omega
      · exact hw.ne r (by rw [hps]; exact List.mem_cons_of_mem _ hr)
  · rw [hf, List.length_drop, ← hw.lf]; rfl
  · rw [hps, List.flatten_cons, List.take_append_of_le_length hn]
/-- What Next gives. -/
inductive NextO (s : SS) (m : Int) : List UInt8 → Int → SS → Prop
  | arg : m < 1 → NextO s m [] 2 s
  | fail : 1 ≤ m → 0 ≤ s.fl → s.fl ≤ s.gv → NextO s m [] 11 s
  | none : 1 ≤ m → ¬ (0 ≤ s.fl ∧ s.fl ≤ s.gv) → s.lf = 0 → NextO s m [] 19 s
  | some (q : List UInt8) (rest : List (List UInt8)) : 1 ≤ m → ¬ (0 ≤ s.fl ∧ s.fl ≤ s.gv) → s.ps = q :: rest → NextO s m (q.take (nxN s m.toNat q.length)) 0 (nxS s (nxN s m.toNat q.length) q rest)
theorem nxN_le (s : SS) (m len : Nat) : nxN s m len ≤ len := by unfold nxN; split <;> omega
theorem nxN_pos {s : SS} {m : Int} {len : Nat} (hm : 1 ≤ m) (hf : ¬ (0 ≤ s.fl ∧ s.fl ≤ s.gv)) (hl : 1 ≤ len) : 1 ≤ nxN s m.toNat len := by unfold nxN; split <;> omega
theorem nxN_m (s : SS) (m : Int) (hm : 1 ≤ m) (len : Nat) : (nxN s m.toNat len : Int) ≤ m := by unfold nxN; split <;> omega
theorem nxN_fl {s : SS} {m len : Nat} (h : 0 ≤ s.fl) (h2 : s.gv ≤ s.fl) : ((s.gv + nxN s m len : Nat) : Int) ≤ s.fl := by unfold nxN; rw [if_pos h]; omega
theorem NextO.wf {s s' : SS} {m er : Int} {x : List UInt8} (h : NextO s m x er s') (hw : Wf s) : Wf s' := by
  cases h with
  | arg => exact hw
  | fail => exact hw
  | none => exact hw
  | some q rest h1 h2 h3 => exact (nx_wf hw h3 (nxN_le _ _ _)).1
theorem NextO.fl_ {s s' : SS} {m er : Int} {x : List UInt8} (h : NextO s m x er s') : s'.fl = s.fl := by
  cases h <;> rfl
/-- What all of it means: octets are given in order. -/
theorem NextO.gives {s s' : SS} {m er : Int} {x : List UInt8} (h : NextO s m x er s') (hw : Wf s) (h0 : er = 0) :
    1 ≤ m ∧ 1 ≤ x.length ∧ (x.length : Int) ≤ m ∧ x = s.ps.flatten.take x.length ∧ s'.ps.flatten = s.ps.flatten.drop x.length ∧ s'.gv = s.gv + x.length ∧ s'.lf + x.length = s.lf ∧ (0 ≤ s.fl → (s.gv : Int) < s.fl ∧ (s'.gv : Int) ≤ s.fl) := by
  cases h with
  | arg => omega
  | fail => omega
  | none => omega
  | some q rest h1 h2 h3 =>
    have hq : 1 ≤ q.length := List.length_pos_iff.2 (hw.ne q (by rw [h3]; simp))
    have hle := nxN_le s m.toNat q.length
    have hpos := nxN_pos h1 h2 hq
    have hm := nxN_m s m h1 q.length
    obtain ⟨h4, h5, h6⟩ := nx_wf hw h3 hle
    have hl : (q.take (nxN s m.toNat q.length)).length = nxN s m.toNat q.length := by rw [List.length_take]; omega
    have hlf : q.length ≤ s.lf := by rw [hw.lf, h3, List.flatten_cons, List.length_append]; omega
    refine ⟨h1, by omega, by omega, by rw [hl]; exact h6, by rw [hl]; exact h5, by rw [hl]; rfl, ?_, fun hf => ⟨by omega, ?_⟩⟩
    · rw [hl]; show s.lf - _ + _ = _; omega
    · exact nxN_fl hf (by omega)
theorem NextO.stays {s s' : SS} {m er : Int} {x : List UInt8} (h : NextO s m x er s') (h0 : er ≠ 0) : x = [] ∧ s' = s ∧ (1 ≤ m → (er = 11 ∧ 0 ≤ s.fl ∧ s.fl ≤ s.gv) ∨ (er = 19 ∧ ¬ (0 ≤ s.fl ∧ s.fl ≤ s.gv) ∧ s.lf = 0)) := by
  cases h with
  | arg h => exact ⟨rfl, rfl, fun h2 => by omega⟩
  | fail h1 h2 h3 => exact ⟨rfl, rfl, fun _ => .inl ⟨rfl, h2, h3⟩⟩
  | none h1 h2 h3 => exact ⟨rfl, rfl, fun _ => .inr ⟨rfl, h2, h3⟩⟩
  | some => exact absurd rfl h0

/-- A source that lies from block B on, and not in T. -/
def InS (B : Nat) (T : Nat → Prop) (w : World) (p : Nat) (s : SS) : Prop := B ≤ w.heap.size ∧ (∀ k, T k → k < w.heap.size) ∧ Wf s ∧ ∃ S, Rep w S p s ∧ ∀ k, S k → B ≤ k ∧ ¬ T k
theorem Rep.lt {w : World} {S : Nat → Prop} {p : Nat} {s : SS} (h : Rep w S p s) {q : Nat} (hq : S q) : q < w.heap.size := by obtain ⟨_, _, h⟩ := h; exact h.lt q hq
section
variable {B p : Nat} {T T' U : Nat → Prop} {w w' : World} {s s' : SS}
theorem InS.frame (h : InS B T w p s) (hb : Only U w w') (hU : ∀ k, U k → T k ∨ w.heap.size ≤ k) (hT : ∀ k, T' k → (T k ∨ w.heap.size ≤ k) ∧ k < w'.heap.size) : InS B T' w' p s := by
  obtain ⟨hB, hTl, hw, S, hR, hS⟩ := h
  refine ⟨Nat.le_trans hB hb.size, fun k hk => (hT k hk).2, hw, S, hR.frame hb fun k hk hu => ?_, fun k hk => ⟨(hS k hk).1, fun ht => ?_⟩⟩
  · rcases hU k hu with h | h
    · exact (hS k hk).2 h
    · have := hR.lt hk; omega
  · rcases (hT k ht).1 with h | h
    · exact (hS k hk).2 h
    · have := hR.lt hk; omega
theorem InS.below (h : InS B T w p s) (hb : Below w.heap.size w w') : InS B T w' p s :=
  h.frame (U := fun k => w.heap.size ≤ k) (Only.of_below hb) (fun _ hk => .inr hk) (fun k hk => ⟨.inl hk, Nat.lt_of_lt_of_le (h.2.1 k hk) hb.size⟩)
theorem InS.less (h : InS B T w p s) (hT : ∀ k, T' k → T k) : InS B T' w p s :=
  ⟨h.1, fun k hk => h.2.1 k (hT k hk), h.2.2.1, by obtain ⟨S, h1, h2⟩ := h.2.2.2; exact ⟨S, h1, fun k hk => ⟨(h2 k hk).1, fun ht => (h2 k hk).2 (hT k ht)⟩⟩⟩
theorem InS.wf (h : InS B T w p s) : Wf s := h.2.2.1
def NoT : Nat → Prop := fun _ => False
theorem next_in (h : InS B T w p s) (m : Int) (hl : s.gv + s.lf ≤ 100000) (hfl : s.fl ≤ 9223372036854775807) (hm2 : m ≤ 9223372036854775807) :
    Calls Try.prog 9 #[pp p, .int .i64 m] w fun e w' => ∃ v x er s', e = .returned (.tuple #[v, .int .i64 er]) ∧ NextO s m x er s' ∧ Own w' 5 1 v x.length (x.map bV) ∧ (∀ k, v.ownBlock = some k → w.heap.size ≤ k) ∧ InS B (fun k => T k ∨ v.ownBlock = some k) w' p s' ∧ Only (fun k => B ≤ k ∧ ¬ T k) w w' := by
  obtain ⟨hB, hTl, hw, S, hR, hS⟩ := h
  have hnil : ∀ k, (Value.slice none 0 0).ownBlock = some k → False := fun k hk => by simp [Value.ownBlock] at hk
  by_cases h1 : m < 1
  · exact (next_arg m w hR h1).mono fun e w' ⟨h2, h3⟩ => by subst h3; exact ⟨_, _, _, _, h2, .arg h1, Own.nil_ _ _ _, fun k hk => (hnil k hk).elim, ⟨hB, fun k hk => hk.elim (hTl k) (fun h => (hnil k h).elim), hw, S, hR, fun k hk => ⟨(hS k hk).1, fun h => h.elim (hS k hk).2 (hnil k)⟩⟩, Only.refl _ _⟩
  · by_cases hf : 0 ≤ s.fl ∧ s.fl ≤ s.gv
    · refine (next_fail m w hR (by omega) hf.1 hf.2).mono fun e w' ⟨h2, q, h3⟩ => ?_
      subst h3
      exact ⟨_, _, _, _, h2, .fail (by omega) hf.1 hf.2, Own.nil_ _ _ _, fun k hk => (hnil k hk).elim, ⟨hB, fun k hk => hk.elim (hTl k) (fun h => (hnil k h).elim), hw, S, hR.frame (T := NoT) ((Only.refl _ w).drewN q) (fun _ _ h => h), fun k hk => ⟨(hS k hk).1, fun h => h.elim (hS k hk).2 (hnil k)⟩⟩, (Only.refl _ _).drewN q⟩
    · by_cases h0 : s.lf = 0
      · refine (next_none m w hR (by omega) hf h0).mono fun e w' ⟨h2, q, h3⟩ => ?_
        subst h3
        exact ⟨_, _, _, _, h2, .none (by omega) hf h0, Own.nil_ _ _ _, fun k hk => (hnil k hk).elim, ⟨hB, fun k hk => hk.elim (hTl k) (fun h => (hnil k h).elim), hw, S, hR.frame (T := NoT) ((Only.refl _ w).drewN q) (fun _ _ h => h), fun k hk => ⟨(hS k hk).1, fun h => h.elim (hS k hk).2 (hnil k)⟩⟩, (Only.refl _ _).drewN q⟩
      · obtain ⟨q, rest, hps⟩ : ∃ q rest, s.ps = q :: rest := by
          cases hp : s.ps with
          | nil => have := hw.lf; rw [hp] at this; simp at this; omega
          | cons q rest => exact ⟨q, rest, rfl⟩
        obtain ⟨n, rfl⟩ := Int.eq_ofNat_of_zero_le (show 0 ≤ m by omega)
        refine (next_ok n w hR hw q rest hps (by omega) (by omega) hf (by omega) (by omega) hfl).mono fun e w' ⟨v, h2, h3, h4, h5, h6⟩ => ?_
        have hle := nxN_le s n q.length
        have hl : (q.take (nxN s n q.length)).length = nxN s n q.length := by rw [List.length_take]; omega
        refine ⟨v, q.take (nxN s n q.length), 0, nxS s (nxN s n q.length) q rest, h2, .some q rest (by omega) hf hps, by rw [hl]; exact h3, h4, ⟨Nat.le_trans hB h5.size, fun k hk => hk.elim (fun hk => Nat.lt_of_lt_of_le (hTl k hk) h5.size) (fun hk => h3.lt hk), (nx_wf hw hps hle).1, S, h6, fun k hk => ⟨(hS k hk).1, fun h => h.elim (hS k hk).2 (fun h => by have := h4 k h; have := hR.lt hk; omega)⟩⟩, h5.mono fun k _ hk => hS k hk⟩
theorem newS_in (bs : List UInt8) (zs : List Int) (fl : Int) (A Z : Option Addr) (n c m d B' : Nat) (w : World) (hr : Rd w B' 1 A n (bs.map bV)) (hz : Rd w B' 1 Z m (zs.map iV)) (hn : n ≤ 100000) (hc : n ≤ c) (hm : m ≤ 1000) (hB' : B' ≤ w.heap.size) (hB : B ≤ w.heap.size) (hT : ∀ k, T k → k < w.heap.size) (hcut : Wf ⟨cutP bs zs, 0, bs.length, fl⟩) :
    Calls Try.prog 8 #[.slice A n c, .int .i64 fl, .slice Z m d] w fun e w' => ∃ p, e = .returned (pp p) ∧ Below w.heap.size w w' ∧ InS B T w' p ⟨cutP bs zs, 0, bs.length, fl⟩ :=
  (new_any bs zs fl A Z n c m d B' w hr hz hn hc hm hB').mono fun e w' ⟨p, S, h1, h2, h3, h4⟩ => ⟨p, h1, h2, Nat.le_trans hB h2.size, fun k hk => Nat.lt_of_lt_of_le (hT k hk) h2.size, hcut, S, h3, fun k hk => ⟨Nat.le_trans hB (h4 k hk), fun ht => by have := hT k ht; have := h4 k hk; omega⟩⟩
theorem given_in (h : InS B T w p s) : Calls Try.prog 12 #[pp p] w fun e w' => e = .returned (.int .i64 (s.gv : Int)) ∧ w = w' := by
  obtain ⟨_, _, _, S, hR, _⟩ := h; exact given_any w hR
theorem left_in (h : InS B T w p s) : Calls Try.prog 13 #[pp p] w fun e w' => e = .returned (.int .i64 (s.lf : Int)) ∧ w = w' := by
  obtain ⟨_, _, _, S, hR, _⟩ := h; exact left_any w hR
end
end Go.Proofs.Ytnigmfjghapfgaa
