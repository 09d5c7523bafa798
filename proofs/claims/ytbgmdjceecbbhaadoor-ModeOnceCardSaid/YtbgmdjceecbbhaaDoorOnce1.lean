/-
  The law ModeOnce, plain: what context tells of records that bear the letter x, one behind the other; no condition beyond those that each theorem states.
-/
import Derived.Test.YtbgmdjceecbbhaaDoorMode17
namespace Go.Proofs.YtbgmdjceecbbhaaDoor
open Go.RowKit Go.Rb

def RX (n : Nat) : Rc := ⟨n, 0, [120]⟩
def run : Nat → Nat → List Rc
  | _, 0 => []
  | c, m + 1 => RX c :: run (c + 1) m
theorem run_len : ∀ c m, (run c m).length = m
  | _, 0 => rfl
  | c, m + 1 => by simp [run, run_len (c + 1) m]
theorem run_snoc : ∀ c m, run c m ++ [RX (c + m)] = run c (m + 1)
  | _, 0 => rfl
  | c, m + 1 => by
    have := run_snoc (c + 1) m
    rw [show c + 1 + m = c + (m + 1) by omega] at this
    show RX c :: (run (c + 1) m ++ [RX (c + (m + 1))]) = _
    rw [this]; rfl
theorem run_drop (c m : Nat) : (run c (m + 1)).drop 1 = run (c + 1) m := rfl
def lnOf (hits : List Bool) (n : Nat) : List UInt8 := line (RX n) (if hits.getD n false then 58 else 45)
def lnsOf (hits : List Bool) : Nat → Nat → List (List UInt8)
  | _, 0 => []
  | c, m + 1 => lnOf hits c :: lnsOf hits (c + 1) m
theorem lnsOf_len (hits : List Bool) : ∀ c m, (lnsOf hits c m).length = m
  | _, 0 => rfl
  | c, m + 1 => by simp [lnsOf, lnsOf_len hits (c + 1) m]
theorem lnsOf_get (hits : List Bool) : ∀ c m j, j < m → (lnsOf hits c m)[j]? = some (lnOf hits (c + j))
  | _, 0, _, h => absurd h (by omega)
  | c, m + 1, 0, _ => rfl
  | c, m + 1, j + 1, h => by
    show (lnsOf hits (c + 1) m)[j]? = _
    rw [lnsOf_get hits (c + 1) m j (by omega), show c + 1 + j = c + (j + 1) by omega]
theorem lnsOf_snoc (hits : List Bool) : ∀ c m, lnsOf hits c m ++ [lnOf hits (c + m)] = lnsOf hits c (m + 1)
  | _, 0 => rfl
  | c, m + 1 => by
    have := lnsOf_snoc hits (c + 1) m
    rw [show c + 1 + m = c + (m + 1) by omega] at this
    show lnOf hits c :: (lnsOf hits (c + 1) m ++ [lnOf hits (c + (m + 1))]) = _
    rw [this]; rfl
theorem toldN (s : Ts) (n m : Nat) : told (told s (RX n)) (RX m) = told s (RX m) := rfl
theorem wrap_next (c : Nat) (h : c ≤ 1000) : wrap64 ((c : Int) + 1) = ((c + 1 : Nat) : Int) := by unfold wrap64; omega
theorem sep_next (s : Ts) (c : Nat) (h : c ≤ 1000) : sepOf (told s (RX c)) (RX (c + 1)) = [] := by
  unfold sepOf told RX
  simp only [wrap_next c h]
  simp
/-- Behind one that was told, those that follow come without a separator. -/
theorem recAll_next (s : Ts) : ∀ (m c : Nat), c + m ≤ 1000 → recAll (told s (RX c)) (run (c + 1) m) = ((run (c + 1) m).map (fun x => line x 45), told s (RX (c + m)))
  | 0, c, _ => rfl
  | m + 1, c, h => by
    show (recL (told s (RX c)) (RX (c + 1)) 45 ++ (recAll (told (told s (RX c)) (RX (c + 1))) (run (c + 1 + 1) m)).1, (recAll (told (told s (RX c)) (RX (c + 1))) (run (c + 1 + 1) m)).2) = _
    rw [toldN, recAll_next s m (c + 1) (by omega)]
    unfold recL
    rw [sep_next s c (by omega)]
    simp only [List.nil_append, run, List.map_cons, List.singleton_append]
    rw [show c + 1 + m = c + (m + 1) by omega]
theorem map_line (hits : List Bool) : ∀ (c m : Nat), (∀ n, c ≤ n → n < c + m → hits.getD n false = false) → (run c m).map (fun x => line x 45) = lnsOf hits c m
  | _, 0, _ => rfl
  | c, m + 1, h => by
    show line (RX c) 45 :: (run (c + 1) m).map (fun x => line x 45) = lnOf hits c :: lnsOf hits (c + 1) m
    rw [map_line hits (c + 1) m (fun n h1 h2 => h n (by omega) (by omega))]
    unfold lnOf
    rw [h c (by omega) (by omega)]; rfl

/-- What is known of the teller behind i records. -/
structure KO (hits : List Bool) (b a i : Nat) (s : Ts) (m : Nat) : Prop where
  ht : s.tell = 3
  ho : s.over = false
  hbe : s.before = b
  haf : s.after = a
  e1 : s.records = 0
  e2 : s.hits = 0
  m0 : 0 ≤ s.more
  m1 : s.more ≤ a
  mh : 0 < s.more → m = 0
  hm : m ≤ b
  hi : m ≤ i
  hh : s.held = run (i - m) m
  hn : ∀ n, i - m ≤ n → n < i → hits.getD n false = false
def outOf (hits : List Bool) (sp : Bool) (c m : Nat) : List (List UInt8) := (if sp then [[45, 45]] else []) ++ lnsOf hits c m
theorem sep_form (s : Ts) (r : Rc) : ∃ sp : Bool, sepOf s r = if sp then [[45, 45]] else [] := by
  unfold sepOf
  by_cases h : (s.any && (r.n != wrap64 (s.last + 1))) = true
  · exact ⟨true, by rw [if_pos h]; rfl⟩
  · exact ⟨false, by rw [if_neg h]; rfl⟩
theorem KO.begin_ (hits : List Bool) (b a : Nat) : KO hits b a 0 (new_ 3 b a) 0 :=
  ⟨rfl, rfl, rfl, rfl, rfl, rfl, by simp [new_], by simp [new_], fun _ => rfl, by omega, by omega, rfl, fun n h1 h2 => by omega⟩
theorem recAll_run (s : Ts) (c m : Nat) (hb : c + m ≤ 1000) (hits : List Bool) (hn : ∀ n, c ≤ n → n < c + m → hits.getD n false = false) (hh : hits.getD (c + m) false = true) :
    ∃ sp : Bool, (recAll s (run c m)).1 ++ recL (fresh (recAll s (run c m)).2) (RX (c + m)) 58 = outOf hits sp c (m + 1) ∧ told (fresh (recAll s (run c m)).2) (RX (c + m)) = told (fresh s) (RX (c + m)) := by
  have hl : [line (RX (c + m)) 58] = [lnOf hits (c + m)] := by unfold lnOf; rw [hh]; rfl
  cases m with
  | zero =>
    obtain ⟨sp, hsp⟩ := sep_form (fresh s) (RX c)
    refine ⟨sp, ?_, rfl⟩
    show [] ++ recL (fresh s) (RX c) 58 = _
    unfold recL outOf
    rw [hsp]
    simp only [List.nil_append]
    rw [← lnsOf_snoc]
    show _ ++ [line (RX (c + 0)) 58] = _
    rw [hl]; rfl
  | succ m =>
    obtain ⟨sp, hsp⟩ := sep_form s (RX c)
    have e : recAll s (run c (m + 1)) = (recL s (RX c) 45 ++ (recAll (told s (RX c)) (run (c + 1) m)).1, (recAll (told s (RX c)) (run (c + 1) m)).2) := rfl
    rw [e, recAll_next s m c (by omega)]
    refine ⟨sp, ?_, rfl⟩
    have e2 : recL (fresh (told s (RX (c + m)))) (RX (c + (m + 1))) 58 = [line (RX (c + (m + 1))) 58] := by
      unfold recL
      have := sep_next (fresh s) (c + m) (by omega)
      rw [show fresh (told s (RX (c + m))) = told (fresh s) (RX (c + m)) from rfl, show c + (m + 1) = c + m + 1 by omega, this]; rfl
    simp only
    rw [e2, hl]
    unfold recL outOf
    rw [hsp, List.append_assoc, List.append_assoc, map_line hits (c + 1) m (fun n h1 h2 => hn n (by omega) (by omega))]
    congr 1
    rw [← lnsOf_snoc hits c (m + 1)]
    have : [line (RX c) 45] = [lnOf hits c] := by unfold lnOf; rw [hn c (by omega) (by omega)]; rfl
    rw [this]
    rfl
theorem KO.step {hits : List Bool} {b a i : Nat} {s : Ts} {m : Nat} (h : KO hits b a i s m) (hi : i ≤ 60) (hb : b ≤ 16) :
    ∃ (sp : Bool) (c k m' : Nat), ctx s (RX i) (hits.getD i false) = (outOf hits sp c k, (ctx s (RX i) (hits.getD i false)).2) ∧ c + k = i + 1 ∧ (k = 0 → sp = false) ∧ KO hits b a (i + 1) (ctx s (RX i) (hits.getD i false)).2 m' ∧ k + m' ≤ m + 1 ∧ (hits.getD i false = true → 1 ≤ k) ∧ (b = 0 → a = 0 → k = if hits.getD i false then 1 else 0) := by
  obtain ⟨ht, ho, hbb, ha, he1, he2, hm0, hm1, hmh, hmb, hmi, hheld, hnn⟩ := h
  cases hx : hits.getD i false with
  | true =>
    obtain ⟨sp, e1, e2⟩ := recAll_run s (i - m) m (by omega) hits (fun n h1 h2 => hnn n h1 (by omega)) (by rw [show i - m + m = i by omega]; exact hx)
    rw [show i - m + m = i by omega] at e1 e2
    have e : ctx s (RX i) true = (outOf hits sp (i - m) (m + 1), told (fresh s) (RX i)) := by
      unfold ctx
      rw [if_pos rfl, hheld, e1, e2]
    refine ⟨sp, i - m, m + 1, 0, by rw [e], by omega, fun h => by omega, ?_, by omega, fun _ => by omega, fun h1 h2 => ?_⟩
    · rw [e]
      exact ⟨ht, ho, hbb, ha, he1, he2, by show 0 ≤ s.after; omega, by show s.after ≤ _; omega, fun _ => rfl, by omega, by omega, rfl, fun n h1 h2 => by omega⟩
    · rw [if_pos rfl]; omega
  | false =>
    by_cases h1 : 0 < s.more
    · have hm : m = 0 := hmh h1
      subst hm
      obtain ⟨sp, hsp⟩ := sep_form { s with more := s.more - 1 } (RX i)
      have e : ctx s (RX i) false = (outOf hits sp i 1, told { s with more := s.more - 1 } (RX i)) := by
        unfold ctx
        rw [if_neg (by decide), if_pos h1]
        unfold recL outOf lnsOf lnsOf lnOf
        rw [hsp, hx]; rfl
      refine ⟨sp, i, 1, 0, by rw [e], rfl, fun h => by omega, ?_, by omega, fun h => absurd h (by decide), fun h1 h2 => by omega⟩
      rw [e]
      exact ⟨ht, ho, hbb, ha, he1, he2, by show 0 ≤ s.more - 1; omega, by show s.more - 1 ≤ _; omega, fun _ => rfl, by omega, by omega, by show s.held = _; rw [hheld]; rfl, fun n h1 h2 => by omega⟩
    · by_cases h2 : 0 < s.before
      · by_cases h3 : (s.held.length : Int) = s.before
        · have hml : m = b := by rw [hheld, run_len] at h3; omega
          obtain ⟨m1, rfl⟩ : ∃ m1, m = m1 + 1 := ⟨m - 1, by omega⟩
          have e : ctx s (RX i) false = ([], { s with held := run (i + 1 - (m1 + 1)) (m1 + 1) }) := by
            unfold ctx
            rw [if_neg (by decide), if_neg h1, if_pos h2, if_pos h3, hheld, run_drop]
            have := run_snoc (i - (m1 + 1) + 1) m1
            rw [show i - (m1 + 1) + 1 + m1 = i by omega] at this
            rw [this, show i + 1 - (m1 + 1) = i - (m1 + 1) + 1 by omega]
          refine ⟨false, i + 1, 0, m1 + 1, by rw [e]; rfl, rfl, fun _ => rfl, ?_, by omega, fun h => absurd h (by decide), fun h1 h2 => rfl⟩
          rw [e]
          exact ⟨ht, ho, hbb, ha, he1, he2, hm0, hm1, fun h => absurd h h1, hmb, by omega, rfl, fun n g1 g2 => by
            by_cases hni : n = i
            · rw [hni]; exact hx
            · exact hnn n (by omega) (by omega)⟩
        · have hml : m ≠ b := by rw [hheld, run_len] at h3; omega
          have e : ctx s (RX i) false = ([], { s with held := run (i + 1 - (m + 1)) (m + 1) }) := by
            unfold ctx
            rw [if_neg (by decide), if_neg h1, if_pos h2, if_neg h3, hheld]
            have := run_snoc (i - m) m
            rw [show i - m + m = i by omega] at this
            rw [this, show i + 1 - (m + 1) = i - m by omega]
          refine ⟨false, i + 1, 0, m + 1, by rw [e]; rfl, rfl, fun _ => rfl, ?_, by omega, fun h => absurd h (by decide), fun h1 h2 => rfl⟩
          rw [e]
          exact ⟨ht, ho, hbb, ha, he1, he2, hm0, hm1, fun h => absurd h h1, by omega, by omega, rfl, fun n g1 g2 => by
            by_cases hni : n = i
            · rw [hni]; exact hx
            · exact hnn n (by omega) (by omega)⟩
      · have hmz : m = 0 := by omega
        subst hmz
        have e : ctx s (RX i) false = ([], s) := by unfold ctx; rw [if_neg (by decide), if_neg h1, if_neg h2]
        refine ⟨false, i + 1, 0, 0, by rw [e]; rfl, rfl, fun _ => rfl, ?_, by omega, fun h => absurd h (by decide), fun h1 h2 => rfl⟩
        rw [e]
        exact ⟨ht, ho, hbb, ha, he1, he2, hm0, hm1, fun _ => rfl, hmb, by omega, by rw [hheld]; rfl, fun n g1 g2 => by omega⟩
theorem KO.fit {hits : List Bool} {b a i : Nat} {s : Ts} {m : Nat} (h : KO hits b a i s m) (hi : i ≤ 60) (hb : b ≤ 16) (ha : a ≤ 16) :
    s.over = false ∧ s.tell = 3 ∧ (∀ x ∈ s.held, I64 x.n ∧ x.t.length ≤ 60) ∧ s.held.length ≤ 100 ∧ s.more ≤ 1000 := by
  refine ⟨h.ho, h.ht, ?_, by rw [h.hh, run_len]; have := h.hm; omega, by have := h.m1; omega⟩
  rw [h.hh]
  have hall : ∀ m c, c + m ≤ 1000 → ∀ x ∈ run c m, I64 x.n ∧ x.t.length ≤ 60 := by
    intro m
    induction m with
    | zero => intro c _ x hx; simp [run] at hx
    | succ m ih =>
      intro c hc x hx
      rcases List.mem_cons.1 hx with rfl | hx
      · exact ⟨by unfold I64 RX; simp only; omega, by simp [RX]⟩
      · exact ih (c + 1) (by omega) x hx
  exact hall m (i - m) (by have := h.hi; omega)
end Go.Proofs.YtbgmdjceecbbhaaDoor
