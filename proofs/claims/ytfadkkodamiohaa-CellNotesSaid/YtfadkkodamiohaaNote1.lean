/-
  The row that internal/strconv.formatBase10 leaves, as a plain function of the number and the row's length; no condition beyond those that each theorem states.
-/
import Derived.Test.YtfadkkodamiohaaBase
import Derived.Lib.Walk
import Derived.Lib.ItoaWalk
import Derived.Lib.ItoaMem
import Derived.WalkKit
import Derived.RegionTactic
import Derived.BigCall
import Derived.BigGuard
import Derived.CellFam
namespace Go.Proofs.Ytfadkkodamiohaa
open Go.RowKit Go.Sort

/-- What is written into a row of n places for v: pairs from behind, and a last digit. -/
def fmt : Nat → Nat → Array UInt8 → Array UInt8
  | 0, _, d => d
  | 1, v, d => d.setIfInBounds 0 (UInt8.ofNat (48 + v))
  | n + 2, v, d => fmt n (v / 100) ((d.setIfInBounds (n + 1) (Lib.sm (v % 100 * 2 + 1))).setIfInBounds n (Lib.sm (v % 100 * 2)))
theorem fmt_size : ∀ (n v : Nat) (d : Array UInt8), (fmt n v d).size = d.size
  | 0, _, _ => rfl
  | 1, _, _ => by simp [fmt]
  | n + 2, v, d => by rw [fmt, fmt_size n]; simp
/-- The loop's invariant. -/
structure FI (d0 : Array UInt8) (u nd v : Nat) (dk : Array UInt8) : Prop where
  eq : fmt nd v dk = fmt d0.size u d0
  size : dk.size = d0.size
  le : nd ≤ d0.size
  lt : v < 10 ^ (nd + 1)
  u64 : v < 18446744073709551616
theorem FI.step2 {d0 : Array UInt8} {u k v : Nat} {dk : Array UInt8} (h : FI d0 u (k + 2) v dk) : FI d0 u k (v / 100) ((dk.setIfInBounds (k + 1) (Lib.sm (v % 100 * 2 + 1))).setIfInBounds k (Lib.sm (v % 100 * 2))) := by
  refine ⟨h.eq, by simp [h.size], by have := h.le; omega, ?_, by have := h.u64; omega⟩
  have h1 := h.lt
  have e : 10 ^ (k + 2 + 1) = 10 ^ (k + 1) * 100 := by rw [show k + 2 + 1 = (k + 1) + 2 by omega, Nat.pow_add]
  exact Nat.div_lt_of_lt_mul (by rw [Nat.mul_comm]; omega)
theorem FI.lt8 {d0 : Array UInt8} {u nd v : Nat} {dk : Array UInt8} (h : FI d0 u nd v dk) (h8 : nd < 8) : v < 100000000 := by
  have h1 := h.lt
  have h2 : 10 ^ (nd + 1) ≤ 10 ^ 8 := Nat.pow_le_pow_right (by omega) (by omega)
  omega

set_option maxHeartbeats 12800000 in
set_option maxRecDepth 100000 in
theorem format_any (blk off cap : Nat) (u : Nat) (d : Array UInt8) (w : World) (hH : Holds (fun (b : UInt8) => Value.int .u8 (b.toNat : Int)) w blk off d) (hu : u < 10 ^ (d.size + 1)) (hu64 : u < 18446744073709551616) (hsz : d.size < 4611686018427387904) :
    Calls Try.prog 39 #[.slice (some ⟨blk, off, none⟩) d.size cap, .int .u64 u] w fun e w' =>
      e = .returned (.tuple #[]) ∧ ∃ (n : Nat) (dk : Array UInt8), w' = (putRow (fun (b : UInt8) => Value.int .u8 (b.toNat : Int)) w blk off dk).drewN n ∧ dk = fmt d.size u d := by
  go_enter Try.func39, Try.ntmps39
  go_name_bytes SM hSM
  have eSM : SM = Lib.smalls := by rw [← hSM]; decide +kernel
  subst eSM
  clear hSM
  go_wp2
  go_loopw [1, 4] (fun vu vn wr => ∃ (nd v n : Nat) (dk : Array UInt8), vu = .int .u64 v ∧ vn = .int .i64 nd ∧ wr = (putRow (fun (b : UInt8) => Value.int .u8 (b.toNat : Int)) w blk off dk).drewN n ∧ Hid (FI d u nd v dk)) (fun _ vn _ => (RowKit.intOf vn).toNat)
  case atStart => exact ⟨d.size, u, 0, d, rfl, rfl, (putRow_self _ _ _ _ _ hH).symm, ⟨rfl, rfl, Nat.le_refl _, hu, hu64⟩⟩
  case round =>
  obtain ⟨nd, v, n, dk0, rfl, rfl, hw0, HI0⟩ := hrel
  rename World => W0
  have AH := Lib.hid hH
  clear hH
  have hv64 : v < 18446744073709551616 := HI0.out.u64
  have hs0 := HI0.out.size
  have hH0 : Holds (fun (b : UInt8) => Value.int .u8 (b.toNat : Int)) W0 blk off dk0 := by rw [hw0]; exact holds_putRow _ w blk off d dk0 AH.out hs0
  obtain ⟨G0, hG0⟩ : ∃ G : Nat → Int, ∀ t, G t = (dk0[t]!.toNat : Int) := ⟨_, fun _ => rfl⟩
  have hc0 : ∀ t, t < d.size → W0.cell? ⟨blk, off + t, none⟩ = some (.int .u8 (G0 t)) := fun t ht => by rw [hG0]; exact (hH0 t (by omega)).1
  have hf0 : ∀ t, t < d.size → W0.frozen? ⟨blk, off + t, none⟩ = false := fun t ht => (hH0 t (by omega)).2
  have AW0 := Lib.hid hw0
  clear hw0 hG0 hH0
  by_cases h8 : 8 ≤ nd
  · obtain ⟨m, rfl⟩ : ∃ m, nd = m + 8 := ⟨nd - 8, by omega⟩
    go_wp2
    have HI1 := Lib.hid (FI.step2 (show FI d u (m + 6 + 2) (v) dk0 from HI0.out))
    have hle0 := HI0.out.le
    go_name_slot 9 x0 hx0
    have hxe0 : x0 = ((v % 100 * 2 : Nat) : Int) := by omega
    have hXa0 : ∀ w, (Instr.index 9 (.string Lib.smalls) (.int .u32 (x0 + 1))).run Try.prog w = .ok (.int .u8 ((Lib.sm (v % 100 * 2 + 1)).toNat : Int)) w := Lib.idx_smalls 9 Try.underlying9 .u32 _ _ (by omega) (by omega)
    have hXb0 : ∀ w, (Instr.index 9 (.string Lib.smalls) (.int .u32 x0)).run Try.prog w = .ok (.int .u8 ((Lib.sm (v % 100 * 2)).toNat : Int)) w := Lib.idx_smalls 9 Try.underlying9 .u32 _ _ (by omega) (by omega)
    have hlo0 : 0 ≤ x0 := by omega
    have hhi0 : x0 ≤ 198 := by omega
    clear hx0 hxe0
    go_region
    go_wp2
    go_name_world W1 hW1
    have hw1 : W1 = (putRow (fun (b : UInt8) => Value.int .u8 (b.toNat : Int)) w blk off ((dk0.setIfInBounds (m + 6 + 1) (Lib.sm (v % 100 * 2 + 1))).setIfInBounds (m + 6) (Lib.sm (v % 100 * 2)))).drewN (n + 0 + 1) := by rw [← hW1]; exact (by rw [AW0.out]; exact Lib.store2_world w blk off dk0 (n + 0) (m + 6 + 1) (m + 6) _ _ (by omega) (by omega))
    generalize ((dk0.setIfInBounds (m + 6 + 1) (Lib.sm (v % 100 * 2 + 1))).setIfInBounds (m + 6) (Lib.sm (v % 100 * 2))) = dk1 at hw1 HI1
    clear hW1 hc0 hf0 AW0 HI0 hXa0 hXb0 hs0
    have hs1 := HI1.out.size
    have hH1 : Holds (fun (b : UInt8) => Value.int .u8 (b.toNat : Int)) W1 blk off dk1 := by rw [hw1]; exact holds_putRow _ w blk off d dk1 AH.out hs1
    obtain ⟨G1, hG1⟩ : ∃ G : Nat → Int, ∀ t, G t = (dk1[t]!.toNat : Int) := ⟨_, fun _ => rfl⟩
    have hc1 : ∀ t, t < d.size → W1.cell? ⟨blk, off + t, none⟩ = some (.int .u8 (G1 t)) := fun t ht => by rw [hG1]; exact (hH1 t (by omega)).1
    have hf1 : ∀ t, t < d.size → W1.frozen? ⟨blk, off + t, none⟩ = false := fun t ht => (hH1 t (by omega)).2
    have AW1 := Lib.hid hw1
    clear hw1 hG1 hH1
    have HI2 := Lib.hid (FI.step2 (show FI d u (m + 4 + 2) (v / 100) dk1 from HI1.out))
    have hle1 := HI1.out.le
    go_name_slot 8 x1 hx1
    have hxe1 : x1 = ((v / 100 % 100 * 2 : Nat) : Int) := by omega
    have hXa1 : ∀ w, (Instr.index 9 (.string Lib.smalls) (.int .u32 (x1 + 1))).run Try.prog w = .ok (.int .u8 ((Lib.sm (v / 100 % 100 * 2 + 1)).toNat : Int)) w := Lib.idx_smalls 9 Try.underlying9 .u32 _ _ (by omega) (by omega)
    have hXb1 : ∀ w, (Instr.index 9 (.string Lib.smalls) (.int .u32 x1)).run Try.prog w = .ok (.int .u8 ((Lib.sm (v / 100 % 100 * 2)).toNat : Int)) w := Lib.idx_smalls 9 Try.underlying9 .u32 _ _ (by omega) (by omega)
    have hlo1 : 0 ≤ x1 := by omega
    have hhi1 : x1 ≤ 198 := by omega
    clear hx1 hxe1
    go_region
    go_wp2
    go_name_world W2 hW2
    have hw2 : W2 = (putRow (fun (b : UInt8) => Value.int .u8 (b.toNat : Int)) w blk off ((dk1.setIfInBounds (m + 4 + 1) (Lib.sm (v / 100 % 100 * 2 + 1))).setIfInBounds (m + 4) (Lib.sm (v / 100 % 100 * 2)))).drewN (n + 1 + 1) := by rw [← hW2]; exact (by rw [AW1.out]; exact Lib.store2_world w blk off dk1 (n + 1) (m + 4 + 1) (m + 4) _ _ (by omega) (by omega))
    generalize ((dk1.setIfInBounds (m + 4 + 1) (Lib.sm (v / 100 % 100 * 2 + 1))).setIfInBounds (m + 4) (Lib.sm (v / 100 % 100 * 2))) = dk2 at hw2 HI2
    clear hW2 hc1 hf1 AW1 HI1 hXa1 hXb1 hs1
    have hs2 := HI2.out.size
    have hH2 : Holds (fun (b : UInt8) => Value.int .u8 (b.toNat : Int)) W2 blk off dk2 := by rw [hw2]; exact holds_putRow _ w blk off d dk2 AH.out hs2
    obtain ⟨G2, hG2⟩ : ∃ G : Nat → Int, ∀ t, G t = (dk2[t]!.toNat : Int) := ⟨_, fun _ => rfl⟩
    have hc2 : ∀ t, t < d.size → W2.cell? ⟨blk, off + t, none⟩ = some (.int .u8 (G2 t)) := fun t ht => by rw [hG2]; exact (hH2 t (by omega)).1
    have hf2 : ∀ t, t < d.size → W2.frozen? ⟨blk, off + t, none⟩ = false := fun t ht => (hH2 t (by omega)).2
    have AW2 := Lib.hid hw2
    clear hw2 hG2 hH2
    have HI3 := Lib.hid (FI.step2 (show FI d u (m + 2 + 2) (v / 100 / 100) dk2 from HI2.out))
    have hle2 := HI2.out.le
    go_name_slot 11 x2 hx2
    have hxe2 : x2 = ((v / 100 / 100 % 100 * 2 : Nat) : Int) := by omega
    have hXa2 : ∀ w, (Instr.index 9 (.string Lib.smalls) (.int .u32 (x2 + 1))).run Try.prog w = .ok (.int .u8 ((Lib.sm (v / 100 / 100 % 100 * 2 + 1)).toNat : Int)) w := Lib.idx_smalls 9 Try.underlying9 .u32 _ _ (by omega) (by omega)
    have hXb2 : ∀ w, (Instr.index 9 (.string Lib.smalls) (.int .u32 x2)).run Try.prog w = .ok (.int .u8 ((Lib.sm (v / 100 / 100 % 100 * 2)).toNat : Int)) w := Lib.idx_smalls 9 Try.underlying9 .u32 _ _ (by omega) (by omega)
    have hlo2 : 0 ≤ x2 := by omega
    have hhi2 : x2 ≤ 198 := by omega
    clear hx2 hxe2
    go_region
    go_wp2
    go_name_world W3 hW3
    have hw3 : W3 = (putRow (fun (b : UInt8) => Value.int .u8 (b.toNat : Int)) w blk off ((dk2.setIfInBounds (m + 2 + 1) (Lib.sm (v / 100 / 100 % 100 * 2 + 1))).setIfInBounds (m + 2) (Lib.sm (v / 100 / 100 % 100 * 2)))).drewN (n + 2 + 1) := by rw [← hW3]; exact (by rw [AW2.out]; exact Lib.store2_world w blk off dk2 (n + 2) (m + 2 + 1) (m + 2) _ _ (by omega) (by omega))
    generalize ((dk2.setIfInBounds (m + 2 + 1) (Lib.sm (v / 100 / 100 % 100 * 2 + 1))).setIfInBounds (m + 2) (Lib.sm (v / 100 / 100 % 100 * 2))) = dk3 at hw3 HI3
    clear hW3 hc2 hf2 AW2 HI2 hXa2 hXb2 hs2
    have hs3 := HI3.out.size
    have hH3 : Holds (fun (b : UInt8) => Value.int .u8 (b.toNat : Int)) W3 blk off dk3 := by rw [hw3]; exact holds_putRow _ w blk off d dk3 AH.out hs3
    obtain ⟨G3, hG3⟩ : ∃ G : Nat → Int, ∀ t, G t = (dk3[t]!.toNat : Int) := ⟨_, fun _ => rfl⟩
    have hc3 : ∀ t, t < d.size → W3.cell? ⟨blk, off + t, none⟩ = some (.int .u8 (G3 t)) := fun t ht => by rw [hG3]; exact (hH3 t (by omega)).1
    have hf3 : ∀ t, t < d.size → W3.frozen? ⟨blk, off + t, none⟩ = false := fun t ht => (hH3 t (by omega)).2
    have AW3 := Lib.hid hw3
    clear hw3 hG3 hH3
    have HI4 := Lib.hid (FI.step2 (show FI d u (m + 2) (v / 100 / 100 / 100) dk3 from HI3.out))
    have hle3 := HI3.out.le
    go_name_slot 10 x3 hx3
    have hxe3 : x3 = ((v / 100 / 100 / 100 % 100 * 2 : Nat) : Int) := by omega
    have hXa3 : ∀ w, (Instr.index 9 (.string Lib.smalls) (.int .u32 (x3 + 1))).run Try.prog w = .ok (.int .u8 ((Lib.sm (v / 100 / 100 / 100 % 100 * 2 + 1)).toNat : Int)) w := Lib.idx_smalls 9 Try.underlying9 .u32 _ _ (by omega) (by omega)
    have hXb3 : ∀ w, (Instr.index 9 (.string Lib.smalls) (.int .u32 x3)).run Try.prog w = .ok (.int .u8 ((Lib.sm (v / 100 / 100 / 100 % 100 * 2)).toNat : Int)) w := Lib.idx_smalls 9 Try.underlying9 .u32 _ _ (by omega) (by omega)
    have hlo3 : 0 ≤ x3 := by omega
    have hhi3 : x3 ≤ 198 := by omega
    clear hx3 hxe3
    go_region
    go_wp2
    go_roundw
    case rel =>
      refine ⟨m, v / 100000000, n + 3 + 1, ((dk3.setIfInBounds (m + 1) (Lib.sm (v / 100 / 100 / 100 % 100 * 2 + 1))).setIfInBounds (m) (Lib.sm (v / 100 / 100 / 100 % 100 * 2))), by first | go_num | (congr 1; omega), by first | go_num | (congr 1; omega), by rw [AW3.out]; exact Lib.store2_world w blk off dk3 (n + 3) (m + 1) (m) _ _ (by omega) (by omega), ?_⟩
      have e : v / 100 / 100 / 100 / 100 = v / 100000000 := by omega
      rw [← e]
      exact HI4.out
    case measure => simp [RowKit.intOf]; omega
  · have hc8 : nd = 0 ∨ nd = 1 ∨ nd = 2 ∨ nd = 3 ∨ nd = 4 ∨ nd = 5 ∨ nd = 6 ∨ nd = 7 := by omega
    rcases hc8 with rfl | rfl | rfl | rfl | rfl | rfl | rfl | rfl
    · -- 0 places are left
      have hv8 := HI0.out.lt8 (by omega)
      have hleT := HI0.out.le
      go_wp2
      go_end0
      exact ⟨rfl, n, dk0, AW0.out, HI0.out.eq⟩
    · -- 1 places are left
      have hv8 := HI0.out.lt8 (by omega)
      have hleT := HI0.out.le
      have hv2 : v < 100 := HI0.out.lt
      go_wp2
      go_end0
      exact ⟨rfl, n, _, by rw [AW0.out]; exact Lib.store1_world0 w blk off dk0 n _ v (by omega) (by omega), HI0.out.eq⟩
    · -- 2 places are left
      have hv8 := HI0.out.lt8 (by omega)
      have hleT := HI0.out.le
      go_wp2
      have HI1 := Lib.hid (FI.step2 (show FI d u (0 + 2) (v) dk0 from HI0.out))
      have hle0 := HI0.out.le
      go_name_slot 16 x0 hx0
      have hxe0 : x0 = ((v % 100 * 2 : Nat) : Int) := by omega
      have hXa0 : ∀ w, (Instr.index 9 (.string Lib.smalls) (.int .u32 (x0 + 1))).run Try.prog w = .ok (.int .u8 ((Lib.sm (v % 100 * 2 + 1)).toNat : Int)) w := Lib.idx_smalls 9 Try.underlying9 .u32 _ _ (by omega) (by omega)
      have hXb0 : ∀ w, (Instr.index 9 (.string Lib.smalls) (.int .u32 x0)).run Try.prog w = .ok (.int .u8 ((Lib.sm (v % 100 * 2)).toNat : Int)) w := Lib.idx_smalls 9 Try.underlying9 .u32 _ _ (by omega) (by omega)
      have hlo0 : 0 ≤ x0 := by omega
      have hhi0 : x0 ≤ 198 := by omega
      clear hx0 hxe0
      go_region
      go_wp2
      go_end0
      exact ⟨rfl, n + 0 + 1, _, by rw [AW0.out]; exact Lib.store2_world w blk off dk0 (n + 0) (0 + 1) (0) _ _ (by omega) (by omega), HI1.out.eq⟩
    · -- 3 places are left
      have hv8 := HI0.out.lt8 (by omega)
      have hleT := HI0.out.le
      go_wp2
      have HI1 := Lib.hid (FI.step2 (show FI d u (1 + 2) (v) dk0 from HI0.out))
      have hle0 := HI0.out.le
      go_name_slot 16 x0 hx0
      have hxe0 : x0 = ((v % 100 * 2 : Nat) : Int) := by omega
      have hXa0 : ∀ w, (Instr.index 9 (.string Lib.smalls) (.int .u32 (x0 + 1))).run Try.prog w = .ok (.int .u8 ((Lib.sm (v % 100 * 2 + 1)).toNat : Int)) w := Lib.idx_smalls 9 Try.underlying9 .u32 _ _ (by omega) (by omega)
      have hXb0 : ∀ w, (Instr.index 9 (.string Lib.smalls) (.int .u32 x0)).run Try.prog w = .ok (.int .u8 ((Lib.sm (v % 100 * 2)).toNat : Int)) w := Lib.idx_smalls 9 Try.underlying9 .u32 _ _ (by omega) (by omega)
      have hlo0 : 0 ≤ x0 := by omega
      have hhi0 : x0 ≤ 198 := by omega
      clear hx0 hxe0
      go_region
      go_wp2
      go_end0
      exact ⟨rfl, n + 0 + 1, _, by rw [AW0.out]; exact Lib.store21_world w blk off dk0 (n + 0) (1 + 1) (1) _ _ _ (v / 100) (by omega) (by omega) (by omega), HI1.out.eq⟩
    · -- 4 places are left
      have hv8 := HI0.out.lt8 (by omega)
      have hleT := HI0.out.le
      go_wp2
      have HI1 := Lib.hid (FI.step2 (show FI d u (2 + 2) (v) dk0 from HI0.out))
      have hle0 := HI0.out.le
      go_name_slot 15 x0 hx0
      have hxe0 : x0 = ((v % 100 * 2 : Nat) : Int) := by omega
      have hXa0 : ∀ w, (Instr.index 9 (.string Lib.smalls) (.int .u32 (x0 + 1))).run Try.prog w = .ok (.int .u8 ((Lib.sm (v % 100 * 2 + 1)).toNat : Int)) w := Lib.idx_smalls 9 Try.underlying9 .u32 _ _ (by omega) (by omega)
      have hXb0 : ∀ w, (Instr.index 9 (.string Lib.smalls) (.int .u32 x0)).run Try.prog w = .ok (.int .u8 ((Lib.sm (v % 100 * 2)).toNat : Int)) w := Lib.idx_smalls 9 Try.underlying9 .u32 _ _ (by omega) (by omega)
      have hlo0 : 0 ≤ x0 := by omega
      have hhi0 : x0 ≤ 198 := by omega
      clear hx0 hxe0
      go_region
      go_wp2
      go_name_world W1 hW1
      have hw1 : W1 = (putRow (fun (b : UInt8) => Value.int .u8 (b.toNat : Int)) w blk off ((dk0.setIfInBounds (2 + 1) (Lib.sm (v % 100 * 2 + 1))).setIfInBounds (2) (Lib.sm (v % 100 * 2)))).drewN (n + 0 + 1) := by rw [← hW1]; exact (by rw [AW0.out]; exact Lib.store2_world w blk off dk0 (n + 0) (2 + 1) (2) _ _ (by omega) (by omega))
      generalize ((dk0.setIfInBounds (2 + 1) (Lib.sm (v % 100 * 2 + 1))).setIfInBounds (2) (Lib.sm (v % 100 * 2))) = dk1 at hw1 HI1
      clear hW1 hc0 hf0 AW0 HI0 hXa0 hXb0 hs0
      have hs1 := HI1.out.size
      have hH1 : Holds (fun (b : UInt8) => Value.int .u8 (b.toNat : Int)) W1 blk off dk1 := by rw [hw1]; exact holds_putRow _ w blk off d dk1 AH.out hs1
      obtain ⟨G1, hG1⟩ : ∃ G : Nat → Int, ∀ t, G t = (dk1[t]!.toNat : Int) := ⟨_, fun _ => rfl⟩
      have hc1 : ∀ t, t < d.size → W1.cell? ⟨blk, off + t, none⟩ = some (.int .u8 (G1 t)) := fun t ht => by rw [hG1]; exact (hH1 t (by omega)).1
      have hf1 : ∀ t, t < d.size → W1.frozen? ⟨blk, off + t, none⟩ = false := fun t ht => (hH1 t (by omega)).2
      have AW1 := Lib.hid hw1
      clear hw1 hG1 hH1
      have HI2 := Lib.hid (FI.step2 (show FI d u (0 + 2) (v / 100) dk1 from HI1.out))
      have hle1 := HI1.out.le
      go_name_slot 14 x1 hx1
      have hxe1 : x1 = ((v / 100 % 100 * 2 : Nat) : Int) := by omega
      have hXa1 : ∀ w, (Instr.index 9 (.string Lib.smalls) (.int .u32 (x1 + 1))).run Try.prog w = .ok (.int .u8 ((Lib.sm (v / 100 % 100 * 2 + 1)).toNat : Int)) w := Lib.idx_smalls 9 Try.underlying9 .u32 _ _ (by omega) (by omega)
      have hXb1 : ∀ w, (Instr.index 9 (.string Lib.smalls) (.int .u32 x1)).run Try.prog w = .ok (.int .u8 ((Lib.sm (v / 100 % 100 * 2)).toNat : Int)) w := Lib.idx_smalls 9 Try.underlying9 .u32 _ _ (by omega) (by omega)
      have hlo1 : 0 ≤ x1 := by omega
      have hhi1 : x1 ≤ 198 := by omega
      clear hx1 hxe1
      go_region
      go_wp2
      go_end0
      exact ⟨rfl, n + 1 + 1, _, by rw [AW1.out]; exact Lib.store2_world w blk off dk1 (n + 1) (0 + 1) (0) _ _ (by omega) (by omega), HI2.out.eq⟩
    · -- 5 places are left
      have hv8 := HI0.out.lt8 (by omega)
      have hleT := HI0.out.le
      go_wp2
      have HI1 := Lib.hid (FI.step2 (show FI d u (3 + 2) (v) dk0 from HI0.out))
      have hle0 := HI0.out.le
      go_name_slot 15 x0 hx0
      have hxe0 : x0 = ((v % 100 * 2 : Nat) : Int) := by omega
      have hXa0 : ∀ w, (Instr.index 9 (.string Lib.smalls) (.int .u32 (x0 + 1))).run Try.prog w = .ok (.int .u8 ((Lib.sm (v % 100 * 2 + 1)).toNat : Int)) w := Lib.idx_smalls 9 Try.underlying9 .u32 _ _ (by omega) (by omega)
      have hXb0 : ∀ w, (Instr.index 9 (.string Lib.smalls) (.int .u32 x0)).run Try.prog w = .ok (.int .u8 ((Lib.sm (v % 100 * 2)).toNat : Int)) w := Lib.idx_smalls 9 Try.underlying9 .u32 _ _ (by omega) (by omega)
      have hlo0 : 0 ≤ x0 := by omega
      have hhi0 : x0 ≤ 198 := by omega
      clear hx0 hxe0
      go_region
      go_wp2
      go_name_world W1 hW1
      have hw1 : W1 = (putRow (fun (b : UInt8) => Value.int .u8 (b.toNat : Int)) w blk off ((dk0.setIfInBounds (3 + 1) (Lib.sm (v % 100 * 2 + 1))).setIfInBounds (3) (Lib.sm (v % 100 * 2)))).drewN (n + 0 + 1) := by rw [← hW1]; exact (by rw [AW0.out]; exact Lib.store2_world w blk off dk0 (n + 0) (3 + 1) (3) _ _ (by omega) (by omega))
      generalize ((dk0.setIfInBounds (3 + 1) (Lib.sm (v % 100 * 2 + 1))).setIfInBounds (3) (Lib.sm (v % 100 * 2))) = dk1 at hw1 HI1
      clear hW1 hc0 hf0 AW0 HI0 hXa0 hXb0 hs0
      have hs1 := HI1.out.size
      have hH1 : Holds (fun (b : UInt8) => Value.int .u8 (b.toNat : Int)) W1 blk off dk1 := by rw [hw1]; exact holds_putRow _ w blk off d dk1 AH.out hs1
      obtain ⟨G1, hG1⟩ : ∃ G : Nat → Int, ∀ t, G t = (dk1[t]!.toNat : Int) := ⟨_, fun _ => rfl⟩
      have hc1 : ∀ t, t < d.size → W1.cell? ⟨blk, off + t, none⟩ = some (.int .u8 (G1 t)) := fun t ht => by rw [hG1]; exact (hH1 t (by omega)).1
      have hf1 : ∀ t, t < d.size → W1.frozen? ⟨blk, off + t, none⟩ = false := fun t ht => (hH1 t (by omega)).2
      have AW1 := Lib.hid hw1
      clear hw1 hG1 hH1
      have HI2 := Lib.hid (FI.step2 (show FI d u (1 + 2) (v / 100) dk1 from HI1.out))
      have hle1 := HI1.out.le
      go_name_slot 14 x1 hx1
      have hxe1 : x1 = ((v / 100 % 100 * 2 : Nat) : Int) := by omega
      have hXa1 : ∀ w, (Instr.index 9 (.string Lib.smalls) (.int .u32 (x1 + 1))).run Try.prog w = .ok (.int .u8 ((Lib.sm (v / 100 % 100 * 2 + 1)).toNat : Int)) w := Lib.idx_smalls 9 Try.underlying9 .u32 _ _ (by omega) (by omega)
      have hXb1 : ∀ w, (Instr.index 9 (.string Lib.smalls) (.int .u32 x1)).run Try.prog w = .ok (.int .u8 ((Lib.sm (v / 100 % 100 * 2)).toNat : Int)) w := Lib.idx_smalls 9 Try.underlying9 .u32 _ _ (by omega) (by omega)
      have hlo1 : 0 ≤ x1 := by omega
      have hhi1 : x1 ≤ 198 := by omega
      clear hx1 hxe1
      go_region
      go_wp2
      go_end0
      exact ⟨rfl, n + 1 + 1, _, by rw [AW1.out]; exact Lib.store21_world w blk off dk1 (n + 1) (1 + 1) (1) _ _ _ (v / 100 / 100) (by omega) (by omega) (by omega), HI2.out.eq⟩
    · -- 6 places are left
      have hv8 := HI0.out.lt8 (by omega)
      have hleT := HI0.out.le
      go_wp2
      have HI1 := Lib.hid (FI.step2 (show FI d u (4 + 2) (v) dk0 from HI0.out))
      have hle0 := HI0.out.le
      go_name_slot 15 x0 hx0
      have hxe0 : x0 = ((v % 100 * 2 : Nat) : Int) := by omega
      have hXa0 : ∀ w, (Instr.index 9 (.string Lib.smalls) (.int .u32 (x0 + 1))).run Try.prog w = .ok (.int .u8 ((Lib.sm (v % 100 * 2 + 1)).toNat : Int)) w := Lib.idx_smalls 9 Try.underlying9 .u32 _ _ (by omega) (by omega)
      have hXb0 : ∀ w, (Instr.index 9 (.string Lib.smalls) (.int .u32 x0)).run Try.prog w = .ok (.int .u8 ((Lib.sm (v % 100 * 2)).toNat : Int)) w := Lib.idx_smalls 9 Try.underlying9 .u32 _ _ (by omega) (by omega)
      have hlo0 : 0 ≤ x0 := by omega
      have hhi0 : x0 ≤ 198 := by omega
      clear hx0 hxe0
      go_region
      go_wp2
      go_name_world W1 hW1
      have hw1 : W1 = (putRow (fun (b : UInt8) => Value.int .u8 (b.toNat : Int)) w blk off ((dk0.setIfInBounds (4 + 1) (Lib.sm (v % 100 * 2 + 1))).setIfInBounds (4) (Lib.sm (v % 100 * 2)))).drewN (n + 0 + 1) := by rw [← hW1]; exact (by rw [AW0.out]; exact Lib.store2_world w blk off dk0 (n + 0) (4 + 1) (4) _ _ (by omega) (by omega))
      generalize ((dk0.setIfInBounds (4 + 1) (Lib.sm (v % 100 * 2 + 1))).setIfInBounds (4) (Lib.sm (v % 100 * 2))) = dk1 at hw1 HI1
      clear hW1 hc0 hf0 AW0 HI0 hXa0 hXb0 hs0
      have hs1 := HI1.out.size
      have hH1 : Holds (fun (b : UInt8) => Value.int .u8 (b.toNat : Int)) W1 blk off dk1 := by rw [hw1]; exact holds_putRow _ w blk off d dk1 AH.out hs1
      obtain ⟨G1, hG1⟩ : ∃ G : Nat → Int, ∀ t, G t = (dk1[t]!.toNat : Int) := ⟨_, fun _ => rfl⟩
      have hc1 : ∀ t, t < d.size → W1.cell? ⟨blk, off + t, none⟩ = some (.int .u8 (G1 t)) := fun t ht => by rw [hG1]; exact (hH1 t (by omega)).1
      have hf1 : ∀ t, t < d.size → W1.frozen? ⟨blk, off + t, none⟩ = false := fun t ht => (hH1 t (by omega)).2
      have AW1 := Lib.hid hw1
      clear hw1 hG1 hH1
      have HI2 := Lib.hid (FI.step2 (show FI d u (2 + 2) (v / 100) dk1 from HI1.out))
      have hle1 := HI1.out.le
      go_name_slot 14 x1 hx1
      have hxe1 : x1 = ((v / 100 % 100 * 2 : Nat) : Int) := by omega
      have hXa1 : ∀ w, (Instr.index 9 (.string Lib.smalls) (.int .u32 (x1 + 1))).run Try.prog w = .ok (.int .u8 ((Lib.sm (v / 100 % 100 * 2 + 1)).toNat : Int)) w := Lib.idx_smalls 9 Try.underlying9 .u32 _ _ (by omega) (by omega)
      have hXb1 : ∀ w, (Instr.index 9 (.string Lib.smalls) (.int .u32 x1)).run Try.prog w = .ok (.int .u8 ((Lib.sm (v / 100 % 100 * 2)).toNat : Int)) w := Lib.idx_smalls 9 Try.underlying9 .u32 _ _ (by omega) (by omega)
      have hlo1 : 0 ≤ x1 := by omega
      have hhi1 : x1 ≤ 198 := by omega
      clear hx1 hxe1
      go_region
      go_wp2
      go_name_world W2 hW2
      have hw2 : W2 = (putRow (fun (b : UInt8) => Value.int .u8 (b.toNat : Int)) w blk off ((dk1.setIfInBounds (2 + 1) (Lib.sm (v / 100 % 100 * 2 + 1))).setIfInBounds (2) (Lib.sm (v / 100 % 100 * 2)))).drewN (n + 1 + 1) := by rw [← hW2]; exact (by rw [AW1.out]; exact Lib.store2_world w blk off dk1 (n + 1) (2 + 1) (2) _ _ (by omega) (by omega))
      generalize ((dk1.setIfInBounds (2 + 1) (Lib.sm (v / 100 % 100 * 2 + 1))).setIfInBounds (2) (Lib.sm (v / 100 % 100 * 2))) = dk2 at hw2 HI2
      clear hW2 hc1 hf1 AW1 HI1 hXa1 hXb1 hs1
      have hs2 := HI2.out.size
      have hH2 : Holds (fun (b : UInt8) => Value.int .u8 (b.toNat : Int)) W2 blk off dk2 := by rw [hw2]; exact holds_putRow _ w blk off d dk2 AH.out hs2
      obtain ⟨G2, hG2⟩ : ∃ G : Nat → Int, ∀ t, G t = (dk2[t]!.toNat : Int) := ⟨_, fun _ => rfl⟩
      have hc2 : ∀ t, t < d.size → W2.cell? ⟨blk, off + t, none⟩ = some (.int .u8 (G2 t)) := fun t ht => by rw [hG2]; exact (hH2 t (by omega)).1
      have hf2 : ∀ t, t < d.size → W2.frozen? ⟨blk, off + t, none⟩ = false := fun t ht => (hH2 t (by omega)).2
      have AW2 := Lib.hid hw2
      clear hw2 hG2 hH2
      have HI3 := Lib.hid (FI.step2 (show FI d u (0 + 2) (v / 100 / 100) dk2 from HI2.out))
      have hle2 := HI2.out.le
      go_name_slot 16 x2 hx2
      have hxe2 : x2 = ((v / 100 / 100 % 100 * 2 : Nat) : Int) := by omega
      have hXa2 : ∀ w, (Instr.index 9 (.string Lib.smalls) (.int .u32 (x2 + 1))).run Try.prog w = .ok (.int .u8 ((Lib.sm (v / 100 / 100 % 100 * 2 + 1)).toNat : Int)) w := Lib.idx_smalls 9 Try.underlying9 .u32 _ _ (by omega) (by omega)
      have hXb2 : ∀ w, (Instr.index 9 (.string Lib.smalls) (.int .u32 x2)).run Try.prog w = .ok (.int .u8 ((Lib.sm (v / 100 / 100 % 100 * 2)).toNat : Int)) w := Lib.idx_smalls 9 Try.underlying9 .u32 _ _ (by omega) (by omega)
      have hlo2 : 0 ≤ x2 := by omega
      have hhi2 : x2 ≤ 198 := by omega
      clear hx2 hxe2
      go_region
      go_wp2
      go_end0
      exact ⟨rfl, n + 2 + 1, _, by rw [AW2.out]; exact Lib.store2_world w blk off dk2 (n + 2) (0 + 1) (0) _ _ (by omega) (by omega), HI3.out.eq⟩
    · -- 7 places are left
      have hv8 := HI0.out.lt8 (by omega)
      have hleT := HI0.out.le
      go_wp2
      have HI1 := Lib.hid (FI.step2 (show FI d u (5 + 2) (v) dk0 from HI0.out))
      have hle0 := HI0.out.le
      go_name_slot 15 x0 hx0
      have hxe0 : x0 = ((v % 100 * 2 : Nat) : Int) := by omega
      have hXa0 : ∀ w, (Instr.index 9 (.string Lib.smalls) (.int .u32 (x0 + 1))).run Try.prog w = .ok (.int .u8 ((Lib.sm (v % 100 * 2 + 1)).toNat : Int)) w := Lib.idx_smalls 9 Try.underlying9 .u32 _ _ (by omega) (by omega)
      have hXb0 : ∀ w, (Instr.index 9 (.string Lib.smalls) (.int .u32 x0)).run Try.prog w = .ok (.int .u8 ((Lib.sm (v % 100 * 2)).toNat : Int)) w := Lib.idx_smalls 9 Try.underlying9 .u32 _ _ (by omega) (by omega)
      have hlo0 : 0 ≤ x0 := by omega
      have hhi0 : x0 ≤ 198 := by omega
      clear hx0 hxe0
      go_region
      go_wp2
      go_name_world W1 hW1
      have hw1 : W1 = (putRow (fun (b : UInt8) => Value.int .u8 (b.toNat : Int)) w blk off ((dk0.setIfInBounds (5 + 1) (Lib.sm (v % 100 * 2 + 1))).setIfInBounds (5) (Lib.sm (v % 100 * 2)))).drewN (n + 0 + 1) := by rw [← hW1]; exact (by rw [AW0.out]; exact Lib.store2_world w blk off dk0 (n + 0) (5 + 1) (5) _ _ (by omega) (by omega))
      generalize ((dk0.setIfInBounds (5 + 1) (Lib.sm (v % 100 * 2 + 1))).setIfInBounds (5) (Lib.sm (v % 100 * 2))) = dk1 at hw1 HI1
      clear hW1 hc0 hf0 AW0 HI0 hXa0 hXb0 hs0
      have hs1 := HI1.out.size
      have hH1 : Holds (fun (b : UInt8) => Value.int .u8 (b.toNat : Int)) W1 blk off dk1 := by rw [hw1]; exact holds_putRow _ w blk off d dk1 AH.out hs1
      obtain ⟨G1, hG1⟩ : ∃ G : Nat → Int, ∀ t, G t = (dk1[t]!.toNat : Int) := ⟨_, fun _ => rfl⟩
      have hc1 : ∀ t, t < d.size → W1.cell? ⟨blk, off + t, none⟩ = some (.int .u8 (G1 t)) := fun t ht => by rw [hG1]; exact (hH1 t (by omega)).1
      have hf1 : ∀ t, t < d.size → W1.frozen? ⟨blk, off + t, none⟩ = false := fun t ht => (hH1 t (by omega)).2
      have AW1 := Lib.hid hw1
      clear hw1 hG1 hH1
      have HI2 := Lib.hid (FI.step2 (show FI d u (3 + 2) (v / 100) dk1 from HI1.out))
      have hle1 := HI1.out.le
      go_name_slot 14 x1 hx1
      have hxe1 : x1 = ((v / 100 % 100 * 2 : Nat) : Int) := by omega
      have hXa1 : ∀ w, (Instr.index 9 (.string Lib.smalls) (.int .u32 (x1 + 1))).run Try.prog w = .ok (.int .u8 ((Lib.sm (v / 100 % 100 * 2 + 1)).toNat : Int)) w := Lib.idx_smalls 9 Try.underlying9 .u32 _ _ (by omega) (by omega)
      have hXb1 : ∀ w, (Instr.index 9 (.string Lib.smalls) (.int .u32 x1)).run Try.prog w = .ok (.int .u8 ((Lib.sm (v / 100 % 100 * 2)).toNat : Int)) w := Lib.idx_smalls 9 Try.underlying9 .u32 _ _ (by omega) (by omega)
      have hlo1 : 0 ≤ x1 := by omega
      have hhi1 : x1 ≤ 198 := by omega
      clear hx1 hxe1
      go_region
      go_wp2
      go_name_world W2 hW2
      have hw2 : W2 = (putRow (fun (b : UInt8) => Value.int .u8 (b.toNat : Int)) w blk off ((dk1.setIfInBounds (3 + 1) (Lib.sm (v / 100 % 100 * 2 + 1))).setIfInBounds (3) (Lib.sm (v / 100 % 100 * 2)))).drewN (n + 1 + 1) := by rw [← hW2]; exact (by rw [AW1.out]; exact Lib.store2_world w blk off dk1 (n + 1) (3 + 1) (3) _ _ (by omega) (by omega))
      generalize ((dk1.setIfInBounds (3 + 1) (Lib.sm (v / 100 % 100 * 2 + 1))).setIfInBounds (3) (Lib.sm (v / 100 % 100 * 2))) = dk2 at hw2 HI2
      clear hW2 hc1 hf1 AW1 HI1 hXa1 hXb1 hs1
      have hs2 := HI2.out.size
      have hH2 : Holds (fun (b : UInt8) => Value.int .u8 (b.toNat : Int)) W2 blk off dk2 := by rw [hw2]; exact holds_putRow _ w blk off d dk2 AH.out hs2
      obtain ⟨G2, hG2⟩ : ∃ G : Nat → Int, ∀ t, G t = (dk2[t]!.toNat : Int) := ⟨_, fun _ => rfl⟩
      have hc2 : ∀ t, t < d.size → W2.cell? ⟨blk, off + t, none⟩ = some (.int .u8 (G2 t)) := fun t ht => by rw [hG2]; exact (hH2 t (by omega)).1
      have hf2 : ∀ t, t < d.size → W2.frozen? ⟨blk, off + t, none⟩ = false := fun t ht => (hH2 t (by omega)).2
      have AW2 := Lib.hid hw2
      clear hw2 hG2 hH2
      have HI3 := Lib.hid (FI.step2 (show FI d u (1 + 2) (v / 100 / 100) dk2 from HI2.out))
      have hle2 := HI2.out.le
      go_name_slot 16 x2 hx2
      have hxe2 : x2 = ((v / 100 / 100 % 100 * 2 : Nat) : Int) := by omega
      have hXa2 : ∀ w, (Instr.index 9 (.string Lib.smalls) (.int .u32 (x2 + 1))).run Try.prog w = .ok (.int .u8 ((Lib.sm (v / 100 / 100 % 100 * 2 + 1)).toNat : Int)) w := Lib.idx_smalls 9 Try.underlying9 .u32 _ _ (by omega) (by omega)
      have hXb2 : ∀ w, (Instr.index 9 (.string Lib.smalls) (.int .u32 x2)).run Try.prog w = .ok (.int .u8 ((Lib.sm (v / 100 / 100 % 100 * 2)).toNat : Int)) w := Lib.idx_smalls 9 Try.underlying9 .u32 _ _ (by omega) (by omega)
      have hlo2 : 0 ≤ x2 := by omega
      have hhi2 : x2 ≤ 198 := by omega
      clear hx2 hxe2
      go_region
      go_wp2
      go_end0
      exact ⟨rfl, n + 2 + 1, _, by rw [AW2.out]; exact Lib.store21_world w blk off dk2 (n + 2) (1 + 1) (1) _ _ _ (v / 100 / 100 / 100) (by omega) (by omega) (by omega), HI3.out.eq⟩
end Go.Proofs.Ytfadkkodamiohaa
