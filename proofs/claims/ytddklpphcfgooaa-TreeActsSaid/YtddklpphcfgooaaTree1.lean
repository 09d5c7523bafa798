/-
  The tree's state, how it lies in memory, and the contracts of the tree's functions there, Cause, Parent, Size; no condition beyond those that each theorem states.
-/
import Derived.Test.YtddklpphcfgooaaInts
import Derived.Test.YtddklpphcfgooaaRegion3
namespace Go.Proofs.Ytddklpphcfgooaa
open Go.RowKit Go.Rb

/-- Of each node: its parent, its cause, its kids. -/
structure TS where
  up : List Int
  ca : List Int
  ki : List (List Nat)
def nV (k : Nat) : Value := .int .i64 (k : Int)
def pp (p : Nat) : Value := .pointer (some ⟨p, 0, none⟩)
/-- The cells of the first n nodes. -/
def flat3 (f : Nat → Value × Value × Value) : Nat → List Value
  | 0 => []
  | n + 1 => flat3 f n ++ [(f n).1, (f n).2.1, (f n).2.2]
theorem flat3_len (f : Nat → Value × Value × Value) : ∀ n, (flat3 f n).length = n * 3
  | 0 => rfl
  | n + 1 => by simp [flat3, flat3_len f n]; omega
theorem flat3_get (f : Nat → Value × Value × Value) : ∀ n i, i < n → (flat3 f n)[i * 3]? = some (f i).1 ∧ (flat3 f n)[i * 3 + 1]? = some (f i).2.1 ∧ (flat3 f n)[i * 3 + 2]? = some (f i).2.2
  | 0, i, h => absurd h (by omega)
  | n + 1, i, h => by
    have hl := flat3_len f n
    by_cases hi : i < n
    · obtain ⟨h1, h2, h3⟩ := flat3_get f n i hi
      rw [flat3, List.getElem?_append_left (by omega), List.getElem?_append_left (by omega), List.getElem?_append_left (by omega)]
      exact ⟨h1, h2, h3⟩
    · obtain rfl : i = n := by omega
      rw [flat3, List.getElem?_append_right (by omega), List.getElem?_append_right (by omega), List.getElem?_append_right (by omega), hl]
      simp only [Nat.sub_self, Nat.add_sub_cancel_left]
      exact ⟨rfl, rfl, rfl⟩
def TS.n (s : TS) : Nat := s.up.length
def TS.row (s : TS) (ks : Nat → Value) (i : Nat) : Value × Value × Value := (.int .i64 (s.up.getD i 0), .int .i64 (s.ca.getD i 0), ks i)

/-- The tree at t: its nodes at av, their kids at ks; all in blocks of S. -/
structure RepA (w : World) (S : Nat → Prop) (t : Nat) (av : Value) (ks : Nat → Value) (s : TS) : Prop where
  tb : Blk w t 55 #[av]
  ao : Own w 52 3 av s.n (flat3 (s.row ks) s.n)
  ko : ∀ i, i < s.n → Own w 3 1 (ks i) (s.ki.getD i []).length ((s.ki.getD i []).map nV)
  kd : ∀ i j, i < s.n → j < s.n → i ≠ j → ∀ k, (ks i).ownBlock = some k → (ks j).ownBlock ≠ some k
  cl : s.ca.length = s.n
  kl : s.ki.length = s.n
  st : S t
  sa : ∀ k, av.ownBlock = some k → S k
  sk : ∀ i, i < s.n → ∀ k, (ks i).ownBlock = some k → S k
  lt : ∀ k, S k → k < w.heap.size
  nn : s.n ≤ 256
def Rep (w : World) (S : Nat → Prop) (t : Nat) (s : TS) : Prop := ∃ av ks, RepA w S t av ks s

section
variable {w w' : World} {S S' T : Nat → Prop} {t : Nat} {av : Value} {ks : Nat → Value} {s : TS}
theorem own_ne_blk {e t : TypeId} {sz n g : Nat} {v : Value} {xs : List Value} {cs : Array Value} (h : Own w e sz v n xs) (hb : Blk w g t cs) (hne : e ≠ t) : v.ownBlock ≠ some g := by
  intro hk
  rcases h.2 with ⟨rfl, _⟩ | ⟨g', off, cap, cur, rfl, hg, _⟩
  · simp [Value.ownBlock] at hk
  · have e1 : g' = g := by simpa [Value.ownBlock] using hk
    subst e1
    exact Blk.ne_ (t := _) (t' := _) hg hb hne rfl
theorem own_ne' {e1 e2 : TypeId} {s1 s2 n1 n2 : Nat} {v1 v2 : Value} {x1 x2 : List Value} (h1 : Own w e1 s1 v1 n1 x1) (h2 : Own w e2 s2 v2 n2 x2) (hne : e1 ≠ e2) :
    ∀ k, v1.ownBlock = some k → v2.ownBlock ≠ some k := by
  intro k hk hk2
  rcases h1.2 with ⟨rfl, _⟩ | ⟨g, off, cap, cur, rfl, hg, _⟩
  · simp [Value.ownBlock] at hk
  · have e1 : g = k := by simpa [Value.ownBlock] using hk
    subst e1
    exact own_ne_blk h2 (t := e1) (show Blk w g e1 cur from hg) (Ne.symm hne) hk2
theorem RepA.c0 (h : RepA w S t av ks s) : w.cell? ⟨t, 0, none⟩ = some av := by rw [h.tb.cell]; rfl
theorem RepA.aform (h : RepA w S t av ks s) {i : Nat} (hi : i < s.n) : ∃ g off cap, av = .slice (some ⟨g, off, none⟩) s.n cap ∧ w.cell? ⟨g, off + i * 3, none⟩ = some (.int .i64 (s.up.getD i 0)) ∧ w.cell? ⟨g, off + i * 3 + 1, none⟩ = some (.int .i64 (s.ca.getD i 0)) ∧
    w.cell? ⟨g, off + i * 3 + 2, none⟩ = some (ks i) ∧ (∀ j, w.frozen? ⟨g, j, none⟩ = false) ∧ S g ∧ g ≠ t := by
  obtain ⟨g, off, cap, hv, _, _, _, hc, hf⟩ := h.ao.form (by omega)
  obtain ⟨h1, h2, h3⟩ := flat3_get (s.row ks) s.n i hi
  refine ⟨g, off, cap, hv, ?_, ?_, ?_, hf, h.sa g (by rw [hv]; rfl), fun e => own_ne_blk h.ao h.tb (by decide) (by rw [hv, ← e]; rfl)⟩
  · rw [hc (i * 3) (by omega), h1]; rfl
  · rw [Nat.add_assoc, hc (i * 3 + 1) (by omega), h2]; rfl
  · rw [Nat.add_assoc, hc (i * 3 + 2) (by omega), h3]; rfl
theorem RepA.frame (h : RepA w S t av ks s) (hb : Only T w w') (hd : ∀ k, S k → ¬ T k) : RepA w' S t av ks s :=
  ⟨h.tb.only hb (hd _ h.st), h.ao.only hb fun k hk => hd _ (h.sa k hk), fun i hi => (h.ko i hi).only hb fun k hk => hd _ (h.sk i hi k hk), h.kd, h.cl, h.kl, h.st, h.sa, h.sk, fun k hk => Nat.lt_of_lt_of_le (h.lt k hk) hb.size, h.nn⟩
theorem RepA.mono (h : RepA w S t av ks s) (hs : ∀ k, S k → S' k) (hl : ∀ k, S' k → k < w.heap.size) : RepA w S' t av ks s :=
  ⟨h.tb, h.ao, h.ko, h.kd, h.cl, h.kl, hs _ h.st, fun k hk => hs _ (h.sa k hk), fun i hi k hk => hs _ (h.sk i hi k hk), hl, h.nn⟩
end

def thereB (s : TS) (i : Int) : Prop := 0 ≤ i ∧ i < (s.n : Int)
instance (s : TS) (i : Int) : Decidable (thereB s i) := by unfold thereB; exact inferInstance
def causeO (s : TS) (i : Int) : Int := if thereB s i then s.ca.getD i.toNat 0 else 0
def parentO (s : TS) (i : Int) : Int := if thereB s i then s.up.getD i.toNat 0 else -1

set_option maxHeartbeats 1000000 in
theorem there_any {S : Nat → Prop} {t : Nat} {av : Value} {ks : Nat → Value} {s : TS} (i : Int) (w : World) (h : RepA w S t av ks s) :
    Calls Try.prog 20 #[pp t, .int .i64 i] w fun e w' => e = .returned (.bool (decide (thereB s i))) ∧ w = w' := by
  have c0 := h.c0
  obtain ⟨A, cap, rfl, -, -⟩ := h.ao.len_
  have e : decide (thereB s i) = (decide (0 ≤ i) && decide (i < (s.n : Int))) := by
    unfold thereB
    by_cases h1 : 0 ≤ i <;> by_cases h2 : i < (s.n : Int) <;> simp [h1, h2]
  rw [e]
  unfold pp
  clear h e
  generalize s.n = n at *
  by_cases h1 : 0 ≤ i
  · have e : decide (0 ≤ i) = true := by simp [h1]
    rw [e, Bool.true_and]
    clear e
    go_enter Try.func20, Try.ntmps20
    go_wp2
    go_ret
    exact ⟨by simp, rfl⟩
  · have i1 : decide (0 ≤ i) = false := by simp; omega
    rw [i1, Bool.false_and]
    go_enter Try.func20, Try.ntmps20
    go_wp2
    go_ret
    exact ⟨rfl, rfl⟩

set_option maxHeartbeats 1000000 in
theorem cause_any {S : Nat → Prop} {t : Nat} {s : TS} (i : Int) (w : World) (hR : Rep w S t s) :
    Calls Try.prog 11 #[pp t, .int .i64 i] w fun e w' => e = .returned (.int .i64 (causeO s i)) ∧ w = w' := by
  obtain ⟨av, ks, h⟩ := hR
  have HC := Lib.hid (there_any i w h)
  unfold causeO
  by_cases hh : thereB s i
  · rw [if_pos hh]
    rw [decide_eq_true hh] at HC
    obtain ⟨h1, h2⟩ := hh
    obtain ⟨k, rfl⟩ := Int.eq_ofNat_of_zero_le h1
    have hk : k < s.n := by omega
    have c0 := h.c0
    obtain ⟨g, off, cap, rfl, -, cc, -, -, -, -⟩ := h.aform hk
    rw [Int.toNat_natCast]
    clear h
    generalize s.ca.getD k 0 = z at *
    generalize s.n = n at *
    unfold pp at HC ⊢
    go_enter Try.func11, Try.ntmps11
    go_wp2_with (go_at_call 20; refine HC.out.mono ?_; rintro e1 w1 ⟨rfl, rfl⟩)
    go_ret
    exact ⟨rfl, rfl⟩
  · rw [if_neg hh]
    rw [decide_eq_false hh] at HC
    clear h hh
    unfold pp at HC ⊢
    go_enter Try.func11, Try.ntmps11
    go_wp2_with (go_at_call 20; refine HC.out.mono ?_; rintro e1 w1 ⟨rfl, rfl⟩)
    go_ret
    exact ⟨rfl, rfl⟩

set_option maxHeartbeats 1000000 in
theorem parent_any {S : Nat → Prop} {t : Nat} {s : TS} (i : Int) (w : World) (hR : Rep w S t s) :
    Calls Try.prog 19 #[pp t, .int .i64 i] w fun e w' => e = .returned (.int .i64 (parentO s i)) ∧ w = w' := by
  obtain ⟨av, ks, h⟩ := hR
  have HC := Lib.hid (there_any i w h)
  unfold parentO
  by_cases hh : thereB s i
  · rw [if_pos hh]
    rw [decide_eq_true hh] at HC
    obtain ⟨h1, h2⟩ := hh
    obtain ⟨k, rfl⟩ := Int.eq_ofNat_of_zero_le h1
    have hk : k < s.n := by omega
    have c0 := h.c0
    obtain ⟨g, off, cap, rfl, cu, -, -, -, -, -⟩ := h.aform hk
    rw [Int.toNat_natCast]
    clear h
    generalize s.up.getD k 0 = z at *
    generalize s.n = n at *
    unfold pp at HC ⊢
    go_enter Try.func19, Try.ntmps19
    go_wp2_with (go_at_call 20; refine HC.out.mono ?_; rintro e1 w1 ⟨rfl, rfl⟩)
    go_ret
    exact ⟨rfl, rfl⟩
  · rw [if_neg hh]
    rw [decide_eq_false hh] at HC
    clear h hh
    unfold pp at HC ⊢
    go_enter Try.func19, Try.ntmps19
    go_wp2_with (go_at_call 20; refine HC.out.mono ?_; rintro e1 w1 ⟨rfl, rfl⟩)
    go_ret
    exact ⟨rfl, rfl⟩

set_option maxHeartbeats 1000000 in
theorem size_any {S : Nat → Prop} {t : Nat} {s : TS} (w : World) (hR : Rep w S t s) :
    Calls Try.prog 12 #[pp t] w fun e w' => e = .returned (.int .i64 (s.n : Int)) ∧ w = w' := by
  obtain ⟨av, ks, h⟩ := hR
  have c0 := h.c0
  obtain ⟨A, cap, rfl, -, -⟩ := h.ao.len_
  clear h
  generalize s.n = n at *
  unfold pp
  go_enter Try.func12, Try.ntmps12
  go_wp2
  go_ret
  exact ⟨rfl, rfl⟩
end Go.Proofs.Ytddklpphcfgooaa
