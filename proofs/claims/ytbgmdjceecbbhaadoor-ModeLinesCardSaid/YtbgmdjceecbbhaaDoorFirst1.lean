/-
  The law ModeFirst, plain: what is known behind so many rows; no condition beyond those that each theorem states.
-/
import Derived.Test.YtbgmdjceecbbhaaDoorMode17
namespace Go.Proofs.YtbgmdjceecbbhaaDoor
open Go.RowKit Go.Rb

def PF (i : Nat) (f ln : Int) (st su : Ts) : Prop :=
  (f = -1 ∧ ln = 0 ∧ st = new_ 1 0 0 ∧ su = new_ 2 0 0) ∨
  (0 ≤ f ∧ f ≤ 1000 ∧ ln = 1 ∧ st.over = true ∧ st.tell = 1 ∧ st.enough = true ∧ st.records = 0 ∧ st.hits = 0 ∧ su.tell = 2 ∧ su.over = false ∧ su.enough = false ∧ 1 ≤ su.records ∧ su.records ≤ i ∧ 0 ≤ su.hits ∧ su.hits ≤ 10 * i)
theorem PF.fit {i : Nat} {f ln : Int} {st su : Ts} (h : PF i f ln st su) (hi : i ≤ 30) : (st.tell = 1 ∧ (0 ≤ st.records ∧ st.records ≤ 1000) ∧ (0 ≤ st.hits ∧ st.hits ≤ 1000000)) ∧ (su.tell = 2 ∧ (0 ≤ su.records ∧ su.records ≤ 1000) ∧ (0 ≤ su.hits ∧ su.hits ≤ 1000000)) ∧ (-1 ≤ f ∧ f ≤ 1000) ∧ (0 ≤ ln ∧ ln ≤ 1) := by
  rcases h with ⟨rfl, rfl, rfl, rfl⟩ | ⟨h1, h2, h3, h4, h5, h6, h7, h8, h9, h10, h11, h12, h13, h14, h15⟩
  · simp [new_]
  · refine ⟨⟨h5, by omega, by omega⟩, ⟨h9, by omega, by omega⟩, by omega, by omega⟩
theorem filter_le (x : Rw) : x.g.length ≤ x.hs.length := List.length_filter_le _ _
theorem PF.step {i : Nat} {f ln : Int} {st su : Ts} (h : PF i f ln st su) (hi : i < 30) (x : Rw) (hx : x.hs.length ≤ 10) :
    (add su x.r x.hs).1 = [] ∧ (add su x.r x.hs).2.enough = false ∧
    (((add st x.r x.hs).1.length = 0 ∧ PF (i + 1) f ln (add st x.r x.hs).2 (add su x.r x.hs).2) ∨ ((add st x.r x.hs).1.length = 1 ∧ PF (i + 1) (i : Int) (ln + 1) (add st x.r x.hs).2 (add su x.r x.hs).2)) := by
  have hg := filter_le x
  unfold Rw.g at hg
  rcases h with ⟨rfl, rfl, rfl, rfl⟩ | ⟨h1, h2, h3, h4, h5, h6, h7, h8, h9, h10, h11, h12, h13, h14, h15⟩
  · by_cases h0 : (x.hs.filter (good x.r.t.length)).length = 0
    · have e1 : add (new_ 1 0 0) x.r x.hs = ([], new_ 1 0 0) := by simp [add, new_, h0]
      have e2 : add (new_ 2 0 0) x.r x.hs = ([], new_ 2 0 0) := by simp [add, new_, h0]
      rw [e1, e2]
      exact ⟨rfl, rfl, .inl ⟨rfl, .inl ⟨rfl, rfl, rfl, rfl⟩⟩⟩
    · have e1 : add (new_ 1 0 0) x.r x.hs = ([line x.r 58], { new_ 1 0 0 with over := true, enough := true }) := by simp [add, new_, h0]
      have e2 : add (new_ 2 0 0) x.r x.hs = ([], { new_ 2 0 0 with records := (new_ 2 0 0).records + 1, hits := (new_ 2 0 0).hits + (x.hs.filter (good x.r.t.length)).length }) := by simp [add, new_, h0]
      rw [e1, e2]
      refine ⟨rfl, rfl, .inr ⟨rfl, .inr ?_⟩⟩
      simp [new_]
      omega
  · have e1 : add st x.r x.hs = ([], st) := by simp [add, h4]
    rw [e1]
    by_cases h0 : (x.hs.filter (good x.r.t.length)).length = 0
    · have e2 : add su x.r x.hs = ([], su) := by simp [add, h0, h9]
      rw [e2]
      refine ⟨rfl, h11, .inl ⟨rfl, .inr ?_⟩⟩
      refine ⟨h1, h2, h3, h4, h5, h6, h7, h8, h9, h10, h11, h12, by simp only; omega, h14, by simp only; omega⟩
    · have e2 : add su x.r x.hs = ([], { su with records := su.records + 1, hits := su.hits + (x.hs.filter (good x.r.t.length)).length }) := by simp [add, h0, h9, h10]
      rw [e2]
      refine ⟨rfl, h11, .inl ⟨rfl, .inr ?_⟩⟩
      refine ⟨h1, h2, h3, h4, h5, h6, h7, h8, h9, h10, h11, ?_, ?_, ?_, ?_⟩ <;> simp only <;> omega
/-- The first digit of a number that isn't 0. -/
theorem dec_head : ∀ (n : Nat), 0 < n → ∃ (d : Nat) (t : List UInt8), 1 ≤ d ∧ d ≤ 9 ∧ Lib.decDigits n = UInt8.ofNat (48 + d) :: t := by
  intro n
  induction n using Nat.strongRecOn with
  | _ n ih =>
    intro hn
    by_cases h10 : n < 10
    · exact ⟨n, [], by omega, by omega, Lib.decDigits_one h10⟩
    · obtain ⟨d, t, h1, h2, h3⟩ := ih (n / 10) (by omega) (by omega)
      refine ⟨d, t ++ Lib.decDigits (n % 10), h1, h2, ?_⟩
      rw [Lib.decDigits, dif_neg h10, h3, Lib.decDigits_one (show n % 10 < 10 from Nat.mod_lt _ (by decide))]
      rfl
theorem itoa_head {n : Int} (h : 1 ≤ n) : ∃ (c : UInt8) (t : List UInt8), c ≠ 48 ∧ Lib.itoa n = c :: t := by
  unfold Lib.itoa
  rw [if_neg (by omega)]
  obtain ⟨d, t, h1, h2, h3⟩ := dec_head n.toNat (by omega)
  refine ⟨_, t, ?_, h3⟩
  intro e
  have := congrArg UInt8.toNat e
  rw [UInt8.toNat_ofNat', Nat.mod_eq_of_lt (by omega)] at this
  have e48 : (48 : UInt8).toNat = 48 := rfl
  omega
theorem cline_ne (s : Ts) (h : 1 ≤ s.records) : cline s ≠ [48, 32, 48] := by
  obtain ⟨c, t, hc, e⟩ := itoa_head h
  unfold cline
  rw [e]
  intro h
  simp at h
  exact hc h.1
theorem PF.end_ {i : Nat} {f ln : Int} {st su : Ts} (h : PF i f ln st su) :
    (f = -1 ∧ ln = 0 ∧ st.enough = false ∧ endL st = [] ∧ endL su = [[48, 32, 48]]) ∨ (0 ≤ f ∧ ln = 1 ∧ st.enough = true ∧ endL st = [] ∧ ∃ c, endL su = [c] ∧ c ≠ [48, 32, 48]) := by
  rcases h with ⟨rfl, rfl, rfl, rfl⟩ | ⟨h1, h2, h3, h4, h5, h6, h7, h8, h9, h10, h11, h12, h13, h14, h15⟩
  · refine .inl ⟨rfl, rfl, rfl, rfl, ?_⟩
    simp [endL, new_, cline, itoa_0]
  · refine .inr ⟨h1, h3, h6, ?_, cline su, ?_, cline_ne su h12⟩
    · simp [endL, h4]
    · simp [endL, h9, h10]
end Go.Proofs.YtbgmdjceecbbhaaDoor
