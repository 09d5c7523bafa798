/-
  Slices of slices that read as pieces; the contracts of reedbedref04.Same, slices.Grow, slices.Concat, cuts.Join and cuts.Ends; no condition beyond those that each theorem states.
-/
import Derived.Test.YtkppgofiojddoaaCut2
namespace Go.Proofs.Ytkppgofiojddoaa
open Go.RowKit Go.Rb

/-- Each value is a slice that reads as that piece, below block B. -/
def PR (w : World) (B : Nat) (vs : List Value) (ps : List (List UInt8)) : Prop :=
  vs.length = ps.length ∧ ∀ i, i < ps.length → ∃ A c, vs[i]? = some (.slice A (ps.getD i []).length c) ∧ (ps.getD i []).length ≤ c ∧ Rd w B 1 A (ps.getD i []).length ((ps.getD i []).map bV)
theorem PR.below {w w' : World} {B : Nat} {vs : List Value} {ps : List (List UInt8)} (h : PR w B vs ps) (hb : Below B w w') : PR w' B vs ps :=
  ⟨h.1, fun i hi => by obtain ⟨A, c, h1, h2, h3⟩ := h.2 i hi; exact ⟨A, c, h1, h2, h3.below hb⟩⟩
theorem Pcs.pr {w : World} {B0 : Nat} {vs : List Value} {ps : List (List UInt8)} (h : Pcs w B0 vs ps) : PR w w.heap.size vs ps := by
  refine ⟨h.len, fun i hi => ?_⟩
  obtain ⟨v, hv, ho, _⟩ := h.at_ i (ps.getD i []) (by simp [List.getD, List.getElem?_eq_getElem hi])
  obtain ⟨A, c, rfl, hc, _⟩ := ho.len_
  exact ⟨A, c, hv, hc, ho.rd⟩

theorem strs_at {xs ys : List (List UInt8)} (k : Nat) (hk : k < xs.length) (hl : xs.length = ys.length) (hp : xs.take k = ys.take k) :
    (xs.getD k [] = ys.getD k [] → xs.take (k + 1) = ys.take (k + 1)) ∧ (xs.getD k [] ≠ ys.getD k [] → xs ≠ ys) := by
  have e1 : xs.getD k [] = xs[k] := by simp [List.getD, List.getElem?_eq_getElem hk]
  have e2 : ys.getD k [] = ys[k]'(by omega) := by simp [List.getD, List.getElem?_eq_getElem (show k < ys.length by omega)]
  rw [e1, e2]
  constructor
  · intro h
    rw [List.take_succ_eq_append_getElem hk, List.take_succ_eq_append_getElem (by omega), hp, h]
  · rintro h rfl
    exact h rfl

theorem ba_ne (p q : List UInt8) (h : p ≠ q) : ((⟨p.toArray⟩ : ByteArray).toList == (⟨q.toArray⟩ : ByteArray).toList) = false := by
  rw [ByteArray.toList_eq, ByteArray.toList_eq]
  simpa using h

set_option maxHeartbeats 1000000 in
theorem same_any (A S : Option Addr) (n m cA cS : Nat) (vs : List Value) (ps qs : List (List UInt8)) (w : World) (B1 B2 B3 : Nat) (hx : Rd w B1 1 A n vs) (hp : PR w B2 vs ps) (hy : Rd w B3 1 S m (qs.map sV)) (hn : n ≤ 1000000) (hm : m ≤ 1000000) :
    Calls Try.prog 12 #[.slice A n cA, .slice S m cS] w fun e w' => e = .returned (.bool (decide (ps = qs))) ∧ ∃ q, w' = w.drewN q := by
  have hxl : ps.length = n := by rw [← hp.1]; simpa using hx.1
  have hyl : qs.length = m := by simpa using hy.1
  by_cases hnm : n = m
  · subst hnm
    go_enter Try.func12, Try.ntmps12
    go_wp2
    go_loopw [5] (fun i wr => ∃ k : Nat, k ≤ n ∧ i = .int .i64 k ∧ Hid (ps.take k = qs.take k) ∧ ∃ q, wr = w.drewN q) (fun i _ => n - (intOf i).toNat)
    case atStart => exact ⟨0, by omega, rfl, rfl, 0, rfl⟩
    case round =>
      obtain ⟨k, hk, rfl, htk, q, rfl⟩ := hrel
      by_cases hlt : k < n
      · obtain ⟨bx, ox, rfl, hbx, hcx⟩ := hx.2 (by omega)
        obtain ⟨b_y, o_y, rfl, hby, hcy⟩ := hy.2 (by omega)
        have h1 := hcx k (by omega)
        have h2 := hcy k (by omega)
        obtain ⟨Ak, ck, h3, _, h4⟩ := hp.2 k (by omega)
        have ht := strs_at k (by omega) (by omega) htk.out
        rw [h3] at h1
        rw [List.getElem?_map, List.getElem?_eq_getElem (by omega), Option.map_some, show qs[k] = qs.getD k [] from by simp [List.getD, List.getElem?_eq_getElem (show k < qs.length by omega)]] at h2
        have kb := fun q => conv_rd (cap := ck) (h4.below (w' := w.drewN q) (below_drewN (Below.refl _ _) q))
        generalize ps.getD k [] = x at *
        generalize qs.getD k [] = y at *
        have i1 : (k : Int) < (n : Int) := by omega
        have i2 : (0 : Int) ≤ (k : Int) := by omega
        unfold sV at h2
        clear hcx hcy h3 h4
        by_cases hxy : x = y
        · have HT := Lib.hid (ht.1 hxy)
          clear ht
          subst hxy
          generalize (⟨x.toArray⟩ : ByteArray) = X at *
          go_wp2_with fail
          go_quiet (fail)
          go_wp2
          go_roundw
          case rel => exact ⟨k + 1, by omega, by go_num, HT.out, q + nq, by simp⟩
          case measure => simp [intOf]; omega
        · have HT := Lib.hid (ht.2 hxy)
          have kc := ba_ne x y hxy
          clear ht
          generalize (⟨x.toArray⟩ : ByteArray) = X at *
          generalize (⟨y.toArray⟩ : ByteArray) = Y at *
          go_wp2_with fail
          go_quiet (fail)
          go_wp2
          go_ret
          exact ⟨by rw [decide_eq_false HT.out]; rfl, q + nq, by simp⟩
      · have HT : Hid (ps = qs) := by
          have := htk.out
          rwa [List.take_of_length_le (by omega), List.take_of_length_le (by omega)] at this
        go_wp2
        go_ret
        exact ⟨by rw [decide_eq_true HT.out]; rfl, _, rfl⟩
  · have HT : Hid (ps ≠ qs) := by rintro rfl; omega
    have hb : ((n : Int) != (m : Int)) = true := by simp; omega
    go_enter Try.func12, Try.ntmps12
    go_wp2
    go_ret
    exact ⟨by rw [decide_eq_false HT.out]; rfl, 0, rfl⟩
end Go.Proofs.Ytkppgofiojddoaa
