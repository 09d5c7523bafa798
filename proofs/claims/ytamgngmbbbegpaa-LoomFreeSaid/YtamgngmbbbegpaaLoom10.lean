/-
  The contract of the law's small; what two looms have; no condition beyond those that each theorem states.
-/
import Derived.Test.YtamgngmbbbegpaaLoom9
namespace Go.Proofs.Ytamgngmbbbegpaa
open Go.RowKit Go.Rb
attribute [local irreducible] Go.wpQuiet

def okJ (js : List Jb) (i : Nat) : Prop := (js.getD i default).st ≤ 50 ∧ (js.getD i default).af ≤ 100 ∧ -100 ≤ (js.getD i default).af
def smallP (js : List Jb) : Prop := js.length ≤ 10 ∧ ∀ i, i < js.length → okJ js i
noncomputable instance (js : List Jb) : Decidable (smallP js) := Classical.propDecidable _

theorem jcell {w : World} {B : Nat} {J : Option Addr} {n : Nat} {js : List Jb} (h : Rd w B 3 J n (flat3 (jrow js) n)) {i : Nat} (hi : i < n) : ∃ b off, J = some ⟨b, off, none⟩ ∧ w.cell? ⟨b, off + i * 3, none⟩ = some (.int .i64 (js.getD i default).st) ∧
    w.cell? ⟨b, off + i * 3 + 1, none⟩ = some (.int .i64 (js.getD i default).on) ∧ w.cell? ⟨b, off + i * 3 + 2, none⟩ = some (.int .i64 (js.getD i default).af) := by
  obtain ⟨b, off, hJ, -, hc⟩ := h.2 (by omega)
  obtain ⟨h1, h2, h3⟩ := flat3_get (jrow js) n i hi
  refine ⟨b, off, hJ, ?_, ?_, ?_⟩
  · rw [hc (i * 3) (by omega), h1]; rfl
  · rw [Nat.add_assoc, hc (i * 3 + 1) (by omega), h2]; rfl
  · rw [Nat.add_assoc, hc (i * 3 + 2) (by omega), h3]; rfl

set_option maxHeartbeats 2000000 in
theorem small_any (w : World) (B : Nat) (J : Option Addr) (n cj : Nat) (js : List Jb) (hJ : Rd w B 3 J n (flat3 (jrow js) n)) (hl : js.length = n) (hc : n ≤ cj) :
    Calls Try.prog 8 #[.slice J n cj] w fun e w' => e = .returned (.bool (decide (smallP js))) ∧ w = w' := by
  by_cases h10 : n ≤ 10
  · have i10 : ¬ (10 : Int) < (n : Int) := by omega
    have HJ := Lib.hid hJ
    have HP : Hid (smallP js ↔ ∀ i, i < n → okJ js i) := by
      show _ ↔ _
      unfold smallP; rw [hl]; exact ⟨fun h => h.2, fun h => ⟨h10, h⟩⟩
    clear hJ hl
    go_enter Try.func8, Try.ntmps8
    go_wp2_with fail
    go_loopw [3] (fun iv wr => ∃ i : Nat, i ≤ n ∧ iv = .int .i64 i ∧ Hid (∀ k, k < i → okJ js k) ∧ w = wr) (fun iv _ => n - (intOf iv).toNat)
    case atStart => exact ⟨0, by omega, rfl, fun k hk => by omega, rfl⟩
    case round =>
      obtain ⟨i, hi, rfl, hok, rfl⟩ := hrel
      by_cases hlt : i < n
      · have i1 : (i : Int) < (n : Int) := by omega
        obtain ⟨b, off, rfl, k0, -, k2⟩ := jcell HJ.out hlt
        have HO : Hid (okJ js i ↔ (js.getD i default).st ≤ 50 ∧ (js.getD i default).af ≤ 100 ∧ -100 ≤ (js.getD i default).af) := Iff.rfl
        generalize (js.getD i default).st = st at *
        generalize (js.getD i default).af = af at *
        by_cases h1 : 50 < st
        · have hn : Hid (¬ smallP js) := fun h => by have := HO.out.1 (HP.out.1 h i hlt); omega
          go_wp2
          go_ret
          exact ⟨by rw [decide_eq_false hn.out]; rfl, rfl⟩
        · by_cases h2 : 100 < af
          · have hn : Hid (¬ smallP js) := fun h => by have := HO.out.1 (HP.out.1 h i hlt); omega
            go_wp2
            go_ret
            exact ⟨by rw [decide_eq_false hn.out]; rfl, rfl⟩
          · by_cases h3 : af < -100
            · have hn : Hid (¬ smallP js) := fun h => by have := HO.out.1 (HP.out.1 h i hlt); omega
              go_wp2
              go_ret
              exact ⟨by rw [decide_eq_false hn.out]; rfl, rfl⟩
            · have hok2 : Hid (∀ k, k < i + 1 → okJ js k) := fun k hk => by
                by_cases e : k = i
                · subst e; exact HO.out.2 (by omega)
                · exact hok.out k (by omega)
              go_wp2
              go_roundw
              case rel => exact ⟨i + 1, by omega, by go_num, hok2, trivial⟩
              case measure => simp [intOf]; omega
      · obtain rfl : i = n := by omega
        have hy : Hid (smallP js) := HP.out.2 hok.out
        go_wp2
        go_ret
        exact ⟨by rw [decide_eq_true hy.out]; rfl, rfl⟩
  · have i10 : (10 : Int) < (n : Int) := by omega
    have hn : decide (smallP js) = false := decide_eq_false (fun h => by have := h.1; omega)
    rw [hn]
    clear hJ hn
    go_enter Try.func8, Try.ntmps8
    go_wp2
    go_ret
    exact ⟨rfl, rfl⟩

/-- What was taken, by i steps. -/
def Tk (n : Nat) (tk : List Int) (i : Nat) : Prop := tk.length = n ∧ ∀ j, j < n → 0 ≤ tk.getD j 0 ∧ tk.getD j 0 ≤ (i : Int)
theorem tk_zero (n : Nat) : Tk n (List.replicate n 0) 0 := by
  refine ⟨by simp, fun j hj => ?_⟩
  rw [List.getD_eq_getElem?_getD, List.getElem?_replicate, if_pos hj]
  exact ⟨Int.le_refl 0, Int.le_refl 0⟩
theorem tk_sm {js : List Jb} {tk : List Int} {n i : Nat} (hs : smallP js) (hl : js.length = n) (h : Tk n tk i) (hi : i ≤ 1000000) : Sm js tk := by
  intro j hj
  obtain ⟨h1, h2, h3⟩ := hs.2 j hj
  have := h.2 j (by omega)
  omega
theorem tk_next {n i : Nat} {tk : List Int} (h : Tk n tk i) (o : Option Nat) : Tk n (incO tk o) (i + 1) := by
  cases o with
  | none => exact ⟨h.1, fun j hj => by have := h.2 j hj; show 0 ≤ tk.getD j 0 ∧ tk.getD j 0 ≤ _; omega⟩
  | some x =>
    refine ⟨by show (tk.set x _).length = n; rw [List.length_set]; exact h.1, fun j hj => ?_⟩
    have := h.2 j hj
    show 0 ≤ (tk.set x (tk.getD x 0 + 1)).getD j 0 ∧ (tk.set x (tk.getD x 0 + 1)).getD j 0 ≤ _
    rw [List.getD_eq_getElem?_getD, List.getElem?_set]
    by_cases e : x = j
    · subst e
      rw [if_pos rfl, if_pos (by rw [h.1]; exact hj)]
      show 0 ≤ _ + 1 ∧ _ + 1 ≤ _
      omega
    · rw [if_neg e, ← List.getD_eq_getElem?_getD]
      omega
theorem tn_next {tn : List Nat} {i : Nat} (h : tn.length ≤ i) (o : Option Nat) : (tnO tn o).length ≤ i + 1 := by
  cases o with
  | none => show tn.length ≤ _; omega
  | some x => show (tn ++ [x]).length ≤ _; simp; omega
theorem pick_same (js : List Jb) (tk : List Int) (n : Nat) (p k : Int) : pickO js tk n (p + k * ((listP js tk n).length : Int)) = pickO js tk n p := by
  unfold pickO
  have : pickK (p + k * ((listP js tk n).length : Int)) (listP js tk n).length = pickK p (listP js tk n).length := by
    unfold pickK; rw [Int.add_mul_emod_self_right]
  rw [this]
theorem mul_bd (k : Int) (l : Nat) (h1 : -1000 ≤ k) (h2 : k ≤ 1000) (hl : l ≤ 10) : -10000 ≤ k * (l : Int) ∧ k * (l : Int) ≤ 10000 := by
  rcases (by omega : l = 0 ∨ l = 1 ∨ l = 2 ∨ l = 3 ∨ l = 4 ∨ l = 5 ∨ l = 6 ∨ l = 7 ∨ l = 8 ∨ l = 9 ∨ l = 10) with rfl | rfl | rfl | rfl | rfl | rfl | rfl | rfl | rfl | rfl | rfl <;> omega
end Go.Proofs.Ytamgngmbbbegpaa
