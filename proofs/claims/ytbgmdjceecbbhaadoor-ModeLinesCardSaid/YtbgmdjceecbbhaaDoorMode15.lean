/-
  The contracts of Held, of reedbedref05.Texts on two lists that are the same, and of reedbedlaw18.row; no condition beyond those that each theorem states.
-/
import Derived.Test.YtbgmdjceecbbhaaDoorMode14
namespace Go.Proofs.YtbgmdjceecbbhaaDoor
open Go.RowKit Go.Rb
attribute [local irreducible] Go.wpQuiet

def heldN : List Rc → Nat
  | [] => 0
  | x :: l => x.t.length + heldN l
theorem heldN_snoc : ∀ (l : List Rc) (x : Rc), heldN (l ++ [x]) = heldN l + x.t.length
  | [], x => by simp [heldN]
  | y :: l, x => by simp [heldN, heldN_snoc l x]; omega
theorem heldN_le : ∀ (l : List Rc), (∀ x ∈ l, x.t.length ≤ 60) → heldN l ≤ 60 * l.length
  | [], _ => by simp [heldN]
  | y :: l, h => by
    have := heldN_le l (fun x hx => h x (List.mem_cons_of_mem _ hx))
    have := h y List.mem_cons_self
    simp only [heldN, List.length_cons]
    omega
set_option maxRecDepth 20000 in
set_option maxHeartbeats 400000 in
theorem held_any (s : Ts) (p : Nat) (hv : Value) (w : World) (h : Tr w p s hv) (hh : ∀ x ∈ s.held, x.t.length ≤ 60) (hm : s.held.length ≤ 100) :
    Calls Tryd.prog 16 #[pp p] w fun e w' => e = .returned (.int .i64 (heldN s.held : Int)) ∧ Below w.heap.size w w' := by
  obtain ⟨A, c, rfl, -, -⟩ := h.2.len_
  have c5 := h.1.cell 5
  simp only [tsc, List.getElem?_toArray, List.getElem?_cons_succ, List.getElem?_cons_zero] at c5
  have HO := Lib.hid h.2
  have HHL : Hid (∀ i, i ≤ s.held.length → heldN (s.held.take i) ≤ 60 * i) := fun i hi => by
    have := heldN_le (s.held.take i) (fun x hx => hh x (List.mem_of_mem_take hx))
    rw [List.length_take] at this
    omega
  have HSN : Hid (∀ i (hi : i < s.held.length), heldN (s.held.take (i + 1)) = heldN (s.held.take i) + (s.held[i]'hi).t.length) := fun i hi => by
    rw [List.take_add_one, List.getElem?_eq_getElem hi]; exact heldN_snoc _ _
  have HLE : Hid (∀ i (hi : i < s.held.length), (s.held[i]'hi).t.length ≤ 60) := fun i hi => hh _ (List.getElem_mem hi)
  obtain ⟨m, hM⟩ : ∃ m, m = s.held.length := ⟨_, rfl⟩
  have HM := Lib.hid hM
  have hfin : heldN s.held = heldN (s.held.take m) := by rw [hM, List.take_length]
  rw [← hM] at hm c5 HHL HO
  obtain ⟨X, hX⟩ : ∃ X, heldN s.held = X := ⟨_, rfl⟩
  rw [hX] at hfin ⊢
  have HF := Lib.hid hfin
  clear hX hh h hM hfin
  unfold pp
  go_enter Tryd.func16, Tryd.ntmps16
  go_wp2_with fail
  go_loopw [3, 11] (fun av iv wr => ∃ i a : Nat, iv = .int .i64 i ∧ i ≤ m ∧ av = .int .i64 a ∧ a ≤ 6000 ∧ Hid (heldN (s.held.take i) = a) ∧ Hid (Below w.heap.size w wr)) (fun _ iv _ => m - (intOf iv).toNat)
  case atStart => exact ⟨0, 0, rfl, by omega, rfl, by omega, by show heldN _ = _; rfl, Below.refl _ _⟩
  case round =>
    obtain ⟨i, a, rfl, hi, rfl, ha, hai, hbw⟩ := hrel
    by_cases hlt : i < m
    · obtain ⟨pb, po, rfl, hpl3, a0, a1, a2⟩ := own_cell3 (n := m) (HO.out.below hbw.out (fun k hk => HO.out.lt hk)) HM.out.symm i hlt
      have hsn := HSN.out i (by rw [← HM.out]; exact hlt)
      have hle := HLE.out i (by rw [← HM.out]; exact hlt)
      have hhl := HHL.out (i + 1) (by omega)
      rw [hsn, hai.out] at hhl
      rw [hai.out] at hsn
      generalize s.held[i]'(by rw [← HM.out]; exact hlt) = x at *
      obtain ⟨xn, xa, xt⟩ := x
      simp only at a0 a1 a2 hsn hle hhl
      have hts : (mk xt).size = xt.length := rfl
      generalize mk xt = TS at *
      rw [← hts] at hsn hle hhl
      have HSNN := Lib.hid hsn
      have i1 : (i : Int) < (m : Int) := by omega
      have i2 : (0 : Int) ≤ (i : Int) := by omega
      clear hsn hts
      go_wp2_with fail
      go_roundw
      case rel => exact ⟨i + 1, a + TS.size, by go_num, by omega, by go_num, by omega, HSNN.out, below_al hbw.out _⟩
      case measure => simp [intOf]; omega
    · obtain rfl : i = m := by omega
      have hXa : Hid (X = a) := HF.out.trans hai.out
      have i1 : ¬ (i : Int) < (i : Int) := by omega
      go_wp2_with fail
      go_ret
      exact ⟨by rw [hXa.out]; rfl, hbw.out⟩
set_option maxRecDepth 20000 in
set_option maxHeartbeats 400000 in
theorem row_any (n : Int) (t : ByteArray) (hit : Bool) (w : World) :
    Calls Tryd.prog 9 #[.int .i64 n, .string t, .bool hit] w fun e w' => ∃ A m, m ≤ 1 ∧ e = .returned (.agg #[.int .i64 n, .int .i64 0, .string t, .slice A m m]) ∧ (m = if hit then 1 else 0) ∧ Rd w' w'.heap.size 2 A m (hts (if hit then [⟨0, 0⟩] else [])) ∧ Below w.heap.size w w' := by
  cases hit with
  | true =>
    go_enter Tryd.func9, Tryd.ntmps9
    go_wp2_with fail
    go_returns
    have ho : ∀ W : World, W.heap.size = w.heap.size + 1 + 1 → Rd (W.alloc (.cells #[.int .i64 0, .int .i64 0] 47)) (W.alloc (.cells #[.int .i64 0, .int .i64 0] 47)).heap.size 2 (some ⟨w.heap.size + 1 + 1, 0, none⟩) 1 (hts [⟨0, 0⟩]) := fun W hW => by
      have := (Own.lit W 47 2 1 #[.int .i64 0, .int .i64 0] rfl (by decide)).rd
      rw [hW] at this
      exact this
    exact ⟨_, 1, by omega, rfl, rfl, ho _ (by simp), below_al (below_al (below_al (Below.refl _ _) _) _) _⟩
  | false =>
    go_enter Tryd.func9, Tryd.ntmps9
    go_wp2_with fail
    go_returns
    refine ⟨_, 0, by omega, rfl, rfl, ⟨rfl, fun h => absurd h (by omega)⟩, ?_⟩
    exact below_al (below_al (Below.refl _ _) _) _
def tV (s : ByteArray) : Value := .string s
set_option maxHeartbeats 1000000 in
theorem texts_same (A B : Option Addr) (n cA cB : Nat) (xs : List ByteArray) (w : World) (b1 b2 : Nat) (hx : Rd w b1 1 A n (xs.map tV)) (hy : Rd w b2 1 B n (xs.map tV)) (hn : n ≤ 1000000) :
    Calls Tryd.prog 12 #[.slice A n cA, .slice B n cB] w fun e w' => e = .returned (.bool true) ∧ ∃ q, w' = w.drewN q := by
  have hxl : xs.length = n := by simpa using hx.1
  go_enter Tryd.func12, Tryd.ntmps12
  go_wp2
  go_loopw [5] (fun i wr => ∃ k : Nat, k ≤ n ∧ i = .int .i64 k ∧ ∃ q, wr = w.drewN q) (fun i _ => n - (intOf i).toNat)
  case atStart => exact ⟨0, by omega, rfl, 0, rfl⟩
  case round =>
    obtain ⟨k, hk, rfl, q, rfl⟩ := hrel
    by_cases hlt : k < n
    · obtain ⟨bx, ox, rfl, hbx, hcx⟩ := hx.2 (by omega)
      obtain ⟨b_y, o_y, rfl, hby, hcy⟩ := hy.2 (by omega)
      have h1 := hcx k (by omega)
      have h2 := hcy k (by omega)
      rw [List.getElem?_map, List.getElem?_eq_getElem (by omega)] at h1 h2
      simp only [Option.map_some, tV] at h1 h2
      generalize xs[k]'(by omega) = x at *
      have i1 : (k : Int) < (n : Int) := by omega
      have i2 : (0 : Int) ≤ (k : Int) := by omega
      clear hcx hcy
      go_wp2_with fail
      go_quiet (fail)
      go_wp2
      go_roundw
      case rel => exact ⟨k + 1, by omega, by go_num, q + nq, by simp⟩
      case measure => simp [intOf]; omega
    · go_wp2
      go_ret
      exact ⟨rfl, _, rfl⟩

end Go.Proofs.YtbgmdjceecbbhaaDoor
