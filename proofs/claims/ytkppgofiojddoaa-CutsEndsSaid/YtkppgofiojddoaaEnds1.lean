/-
  The walk of reedbedlaw04.CutsEnds: it returns true; how pieces that came in read; no condition beyond those that each theorem states.
-/
import Derived.Test.YtkppgofiojddoaaAwake
namespace Go.Proofs.Ytkppgofiojddoaa
open Go.RowKit Go.Rb

section
open Go.ChangeShapes Go.WideShapes Go.ChangeAt Go.Deep
theorem open_pieces {H : Type} {enc : TypeId × Value → H} {w : World} {base : Nat} {spare : Nat → Bool} {held : Bool} {fuel : Nat} {A : Option Addr} {len cap : Nat} {x : DataW H × List MemPlace}
    (h : DataW.trod enc Try.prog w base spare held fuel 28 [.slice A len cap] = some x) :
    ∃ (vs : List Value) (ps : List (List UInt8)), ps.length = len ∧ len ≤ cap ∧ cap ≤ maxLen ∧ Rd w w.heap.size 1 A len vs ∧ PR w w.heap.size vs ps := by
  rcases open_slice1 Try.underlying28 (by kernel_rfl) h with ⟨hcs, -⟩ | ⟨a, l, c, m, n, V, D, Pl, hcs, hb, hl, hm, hmm, hx, hV⟩
  · simp at hcs
    obtain ⟨rfl, rfl, rfl⟩ := hcs
    exact ⟨[], [], rfl, by omega, by simp [maxLen], ⟨rfl, fun h => absurd h (by omega)⟩, rfl, fun i hi => absurd hi (by simp)⟩
  · simp at hcs
    obtain ⟨rfl, rfl, rfl⟩ := hcs
    have hlm : len ≤ m := by rw [hmm]; split <;> omega
    have hP : ∀ i, ∃ p : List UInt8, i < len → ∃ A' c', V i = .slice A' p.length c' ∧ p.length ≤ c' ∧ Rd w w.heap.size 1 A' p.length (p.map bV) := by
      intro i
      by_cases hi : i < len
      · obtain ⟨hc, ht⟩ := hV i (by omega)
        have hv : ∃ A' l' c', V i = .slice A' l' c' := by
          rcases open_slice Try.underlying27 ht with ⟨h0, -⟩ | ⟨a', l', c', _, _, _, _, h0, _⟩
          · exact ⟨none, 0, 0, by simpa using h0⟩
          · exact ⟨some a', l', c', by simpa using h0⟩
        obtain ⟨A', l', c', hv⟩ := hv
        rw [hv] at ht
        obtain ⟨bs, hbl, hlc, -, hr⟩ := open_bytes ht
        subst hbl
        exact ⟨bs, fun _ => ⟨A', c', hv, hlc, hr⟩⟩
      · exact ⟨[], fun h => absurd h hi⟩
    refine ⟨(List.range len).map V, (List.range len).map fun i => (hP i).choose, by simp, hl, hm, ⟨by simp, fun h0 => ?_⟩, by simp, fun i hi => ?_⟩
    · have h00 := (hV 0 (by omega)).1
      rw [add_zero_] at h00
      have hp := plain_of_cell h00
      refine ⟨a.block, a.off, by rw [← hp], World.block_lt_of_cell? w _ h00, fun j hj => ?_⟩
      have := (hV j (by omega)).1
      rw [hp, Rb.add_plain] at this
      rw [this]
      simp [show j < len by omega]
    · have hi' : i < len := by simpa using hi
      obtain ⟨A', c', h1, h2, h3⟩ := (hP i).choose_spec hi'
      have e : ((List.range len).map fun i => (hP i).choose).getD i [] = (hP i).choose := by rw [List.getD_eq_getElem?_getD, List.getElem?_map, List.getElem?_range hi']; rfl
      rw [e]
      exact ⟨A', c', by rw [List.getElem?_map, List.getElem?_range hi']; exact congrArg some h1, h2, h3⟩
end

set_option maxHeartbeats 2000000 in
theorem ends_small (vs : List Value) (ps : List (List UInt8)) (A : Option Addr) (n c : Nat) (w : World) (hr : Rd w w.heap.size 1 A n vs) (hp : PR w w.heap.size vs ps) (hn : n ≤ 20) (hc : n ≤ c) :
    Calls Try.prog 6 #[.slice A n c] w fun e w' => e = .returned (.bool true) ∧ Below w.heap.size w w' := by
  have hpl : ps.length = n := by rw [← hp.1]; simpa using hr.1
  have hA : Hid (∀ w, Calls Try.prog 7 #[] w fun e w' => e = .returned (.bool true) ∧ Below w.heap.size w w') := awake_any
  have hE : Hid (∀ X, Below w.heap.size w X → Calls Try.prog 15 #[.slice A n c] X (RetNewI X (endsW ps n))) := fun X hX => ends_any A n c vs ps X _ _ (hr.below hX) (hp.below hX) hX.size (by omega)
  have hJ : Hid (∀ X, Below w.heap.size w X → ps.flatten.length ≤ 1000000 → Calls Try.prog 14 #[.slice A n c] X (RetNewB X ps.flatten)) := fun X hX hf => join_any A n c vs ps X _ _ (hr.below hX) (hp.below hX) hX.size hX.size (by omega) hf
  have HR := Lib.hid hr; have HP := Lib.hid hp; have HL := Lib.hid hpl
  clear hr hp hpl
  have hn' : (n : Int) ≤ 20 := by omega
  go_enter Try.func6, Try.ntmps6
  go_wp2_with (first
    | (go_at_call 7; refine (hA.out _).mono ?_; rintro e1 w1 ⟨rfl, hb1⟩; have HB1 := Lib.hid hb1; clear hb1)
    | (go_at_call 15; refine (hE.out _ HB1.out).mono ?_; rintro e2 w2 ⟨v2, rfl, ho2, hb2, hk2⟩; have HB2 := Lib.hid (below_trans HB1.out hb2); rw [endsW_len] at ho2; obtain ⟨Ae, ce, rfl, hr2, -⟩ := Own.rd' ho2))
  have HR2 := Lib.hid hr2
  clear hr2 ho2 hb2 hk2
  go_loopw [3, 5] (fun s i wr => ∃ (k : Nat) (X : ByteArray), k ≤ n ∧ i = .int .i64 k ∧ s = .string X ∧ X.size ≤ 100 * k ∧ Hid (X = ⟨((ps.take k).flatten).toArray⟩) ∧ Hid (∀ j, j < k → (ps.getD j []).length ≤ 100) ∧ w2 = wr) (fun _ i _ => n - (intOf i).toNat)
  case atStart => exact ⟨0, ⟨#[]⟩, by omega, rfl, rfl, by decide, by show _ = _; rfl, fun j hj => absurd hj (by omega), rfl⟩
  case round =>
    obtain ⟨k, X, hk, rfl, rfl, hX, hXf, hsh, rfl⟩ := hrel
    by_cases hlt : k < n
    · obtain ⟨b, o, rfl, hB, hcell⟩ := HR.out.2 (by omega)
      obtain ⟨be, oe, rfl, hBe, hcelle⟩ := HR2.out.2 (by omega)
      have c1 := hcell k (by omega)
      obtain ⟨Ak, dk, hvk, -, hrk⟩ := HP.out.2 k (by rw [HL.out]; omega)
      rw [hvk] at c1
      have c1' := (HB2.out.cell (p := ⟨b, o + k, none⟩) hB).trans c1
      have kb := conv_rd (cap := dk) (hrk.below HB2.out)
      have i1 : (k : Int) < (n : Int) := by omega
      by_cases hlong : 100 < (ps.getD k []).length
      · generalize ps.getD k [] = x at *
        generalize x.length = xl at *
        have i2 : (100 : Int) < (xl : Int) := by omega
        clear hcell hcelle c1 hvk hrk kb
        go_wp2
        go_ret
        exact ⟨rfl, HB2.out⟩
      · have hat : Hid (atW ps (k + 1) = (((X ++ ⟨(ps.getD k []).toArray⟩ : ByteArray).size : Nat) : Int)) := by
          show _ = _
          rw [atW_eq ps (k + 1) (fun j hj => by
            by_cases h : j < k
            · exact hsh.out j h
            · obtain rfl : j = k := by omega
              omega) (by rw [HL.out]; omega) (by rw [HL.out]; omega), hXf.out, cat_, ← take_catL ps k (by rw [HL.out]; omega)]
          simp [ByteArray.size]
        have c2 : w2.cell? ⟨be, oe + k, none⟩ = some (.int .i64 (((X ++ ⟨(ps.getD k []).toArray⟩ : ByteArray).size : Nat) : Int)) := by
          rw [hcelle k (by omega), List.getElem?_map]
          have : (endsW ps n)[k]? = some (atW ps (k + 1)) := by simp [endsW, hlt]
          rw [this, ← hat.out]; rfl
        have hnx : Hid (X ++ ⟨(ps.getD k []).toArray⟩ = (⟨((ps.take (k + 1)).flatten).toArray⟩ : ByteArray)) := by
          show _ = _
          rw [hXf.out, cat_, ← take_catL ps k (by rw [HL.out]; omega)]
        have hsz : (X ++ ⟨(ps.getD k []).toArray⟩ : ByteArray).size ≤ 100 * (k + 1) := by
          have : (⟨(ps.getD k []).toArray⟩ : ByteArray).size = (ps.getD k []).length := by simp [ByteArray.size]
          rw [ByteArray.size_append, this]; omega
        have hsh' : Hid (∀ j, j < k + 1 → (ps.getD j []).length ≤ 100) := by
          intro j hj
          by_cases h : j < k
          · exact hsh.out j h
          · obtain rfl : j = k := by omega
            omega
        generalize ps.getD k [] = x at *
        have hxs : (⟨x.toArray⟩ : ByteArray).size = x.length := by simp [ByteArray.size]
        generalize (⟨x.toArray⟩ : ByteArray) = Y at *
        generalize x.length = xl at *
        have i2 : ¬ (100 : Int) < (xl : Int) := by omega
        clear hcell hcelle c1 hvk hrk hat
        go_wp2
        go_roundw
        case rel => exact ⟨k + 1, X ++ Y, by omega, by go_num, rfl, hsz, hnx.out, hsh'.out, by first | rfl | trivial⟩
        case measure => simp [intOf]; omega
    · have hkn : k = n := by omega
      subst hkn
      have hfl : (ps.take k).flatten = ps.flatten := by rw [List.take_of_length_le (by rw [HL.out]; omega)]
      have hle : ps.flatten.length ≤ 1000000 := by
        have := flat_le ps k hsh.out (by rw [HL.out]; omega)
        rw [hfl] at this; omega
      rw [hfl] at hXf
      go_wp2_with (go_at_call 14; refine (hJ.out _ HB2.out hle).mono ?_; rintro e3 w3 ⟨v3, rfl, ho3, hb3, hk3⟩; have kc := conv_own ho3; rw [← hXf.out] at kc; have HB3 := Lib.hid (below_trans HB2.out hb3); clear ho3 hb3 hk3)
      go_ret
      exact ⟨by simp, HB3.out⟩

set_option maxHeartbeats 1000000 in
theorem endsLaw_any (vs : List Value) (ps : List (List UInt8)) (A : Option Addr) (n c : Nat) (w : World) (hr : Rd w w.heap.size 1 A n vs) (hp : PR w w.heap.size vs ps) (hc : n ≤ c) :
    Calls Try.prog 6 #[.slice A n c] w fun e w' => e = .returned (.bool true) ∧ Below w.heap.size w w' := by
  by_cases h : n ≤ 20
  · exact ends_small vs ps A n c w hr hp h hc
  · have hA : Hid (∀ w, Calls Try.prog 7 #[] w fun e w' => e = .returned (.bool true) ∧ Below w.heap.size w w') := awake_any
    have h1 : (20 : Int) < (n : Int) := by omega
    clear hr hp h
    go_enter Try.func6, Try.ntmps6
    go_wp2_with fail
    refine (hA.out _).mono ?_
    rintro e1 w1 ⟨rfl, hb1⟩
    go_wp2_with fail
    refine (hA.out _).mono ?_
    rintro e2 w2 ⟨rfl, hb2⟩
    go_wp2
    go_ret
    exact ⟨rfl, below_trans hb1 hb2⟩
end Go.Proofs.Ytkppgofiojddoaa
