/-
  The law 'records are the text' (SplitJoins): its walk; no condition beyond those that each theorem states.
-/
import Derived.Test.YthgjfdjjnkgicaaAwake7
import Derived.Test.YthgjfdjjnkgicaaPlain7d
namespace Go.Proofs.Ythgjfdjjnkgicaa
open Go.RowKit Go.Rb
attribute [local irreducible] Go.wpQuiet

set_option maxHeartbeats 4000000 in
theorem joins_big (s : ByteArray) (w : World) (h : ¬ s.size ≤ 1000) : Calls Try.prog 4 #[.string s] w fun e w' => e = .returned (.bool true) ∧ Below w.heap.size w w' := by
  have HA : Hid (∀ w, Calls Try.prog 7 #[] w fun e w' => e = .returned (.bool true) ∧ Below w.heap.size w w') := awake_any
  have i1 : (1000 : Int) < (s.size : Int) := by omega
  clear h
  go_enter Try.func4, Try.ntmps4
  go_wp2_with (first
    | (go_at_call 7; refine (HA.out _).mono ?_; rintro e2 w2 ⟨rfl, hb2⟩; have HB2 := Lib.hid (below_trans HB1.out hb2); clear hb2)
    | (go_at_call 7; refine (HA.out _).mono ?_; rintro e1 w1 ⟨rfl, hb1⟩; have HB1 := Lib.hid hb1; clear hb1))
  go_ret
  exact ⟨rfl, HB2.out⟩
set_option maxRecDepth 20000 in
set_option maxHeartbeats 8000000 in
theorem joins_main (x : List UInt8) (w : World) (hx : x.length ≤ 1000) : Calls Try.prog 4 #[.string (mk x)] w fun e w' => e = .returned (.bool true) ∧ Below w.heap.size w w' := by
  have HA : Hid (∀ w, Calls Try.prog 7 #[] w fun e w' => e = .returned (.bool true) ∧ Below w.heap.size w w') := awake_any
  have HX := Lib.hid (fun w => all_any 4096 x w (by decide) (by decide) (by omega))
  rw [al_lv] at HX
  rw [lv_ok 4096 x.length x 0 0 (Nat.le_refl _) (by omega)] at HX
  have hl := lv_len 4096 x.length x 0 0 (Nat.le_refl _)
  have HLV : Hid ((lv 4096 x 0 0).1.drop 0 = (lv 4096 (x.drop 0) 0 0).1) := by rw [List.drop_zero, List.drop_zero]; exact (rfl : _ = _)
  generalize (lv 4096 x 0 0).1 = O at *
  have hz := mk_size x
  obtain ⟨n, hk⟩ : ∃ k, O.length = k := ⟨_, rfl⟩
  obtain ⟨lx, hlx⟩ : ∃ k, x.length = k := ⟨_, rfl⟩
  have i1 : ¬ (1000 : Int) < (lx : Int) := by omega
  have hn2 : n ≤ lx := by omega
  have HK := Lib.hid hk
  have HLX := Lib.hid hlx
  rw [hk] at HX
  rw [hlx] at hz hx
  have HEX : Hid (∀ a b, (mk x).extract a b = mk (cut x a b)) := fun a b => mk_cut x a b
  have HIX := Lib.hid (fun j (hj : j < lx) => idx_mk x lx j hlx hj)
  clear hl hk hlx
  generalize mk x = b at *
  go_enter Try.func4, Try.ntmps4
  go_wp2_with (first
    | (go_at_call 7; refine (HA.out _).mono ?_; rintro e1 w1 ⟨rfl, hb1⟩; have HB1 := Lib.hid hb1; clear hb1)
    | (go_at_call 8; refine (HX.out _).mono ?_; rintro e2 w2 ⟨v2, rfl, hown2, -, hb2⟩; obtain ⟨A2, c2, rfl, -, -⟩ := hown2.len_; have HB2 := Lib.hid (below_trans HB1.out hb2); have HO2 := Lib.hid hown2.rd; clear hb2 hown2))
  go_loopw [5, 6] (fun av iv wr => ∃ a i q : Nat, i ≤ n ∧ a ≤ lx ∧ av = .int .i64 a ∧ iv = .int .i64 i ∧ wr = w2.drewN q ∧ Hid (O.drop i = (lv 4096 (x.drop a) a i).1)) (fun _ iv _ => n - (intOf iv).toNat)
  case atStart => exact ⟨0, 0, 0, by omega, by omega, rfl, rfl, rfl, HLV.out⟩
  case round =>
    obtain ⟨a, i, q, hi, ha, rfl, rfl, rfl, hO⟩ := hrel
    by_cases hlt : i < n
    · have hax : a < lx := by
        rcases Nat.lt_or_ge a lx with h | h
        · exact h
        · exfalso
          have h1 := hO.out
          rw [show x.drop a = [] from List.drop_of_length_le (by rw [HLX.out]; omega), lv_nil] at h1
          have h2 := congrArg List.length h1
          rw [List.length_drop, HK.out] at h2
          simp at h2; omega
      obtain ⟨t, at2, hst, hat2, hlt2, hlv⟩ := lv_step 4096 x a i (by rw [HLX.out]; exact hax) (by rw [HLX.out]; omega)
      have hO1 := hO.out
      rw [hlv] at hO1
      have hOi : O[i]? = some ⟨i, a, t⟩ := by
        have h2 := congrArg (fun l => l[0]?) hO1
        simpa using h2
      have HN : Hid (O.drop (i + 1) = (lv 4096 (x.drop at2) at2 (i + 1)).1) := by
        have h2 := congrArg List.tail hO1
        rw [List.tail_drop, List.tail_cons] at h2
        exact h2
      obtain ⟨hno, htl, his, how⟩ := hst
      rw [HLX.out] at how hat2 htl
      obtain ⟨pa, po, rfl, -, hcell⟩ := HO2.out.2 (by omega)
      have hi2 : i < O.length := by rw [HK.out]; exact hlt
      have hOe : O[i] = ⟨i, a, t⟩ := by rw [List.getElem?_eq_getElem hi2] at hOi; injection hOi
      have g0 := rcs_get O i 0 hi2 (by decide)
      have g1 := rcs_get O i 1 hi2 (by decide)
      have g2 := rcs_get O i 2 hi2 (by decide)
      rw [hOe] at g0 g1 g2
      have x0 := hcell (i * 3 + 0) (by omega)
      have x1 := hcell (i * 3 + 1) (by omega)
      have x2 := hcell (i * 3 + 2) (by omega)
      rw [g0] at x0
      rw [g1, ← Nat.add_assoc] at x1
      rw [g2, ← Nat.add_assoc] at x2
      simp only [Nat.add_zero] at x0
      simp only [rc, nV, List.getElem?_cons_zero, List.getElem?_cons_succ] at x0 x1 x2
      have hzt := mk_size t
      obtain ⟨tl, htl'⟩ : ∃ k, t.length = k := ⟨_, rfl⟩
      have HT := Lib.hid (fun j (hj : j < tl) => idx_mk t tl j htl' hj)
      have HNO : Hid (∀ j, j < tl → t.getD j 0 ≠ 10) := fun j hj h => hno (by
        rw [← h, List.getD_eq_getElem?_getD, List.getElem?_eq_getElem (by omega)]; exact List.getElem_mem _)
      have hex := HEX.out a (a + t.length)
      rw [his] at hex
      rw [htl'] at hzt how htl hex
      have i2 : (i : Int) < (n : Int) := by omega
      have i3 : (0 : Int) ≤ (i : Int) := by omega
      have i4 : (0 : Int) ≤ (a : Int) := by omega
      have i5 : (a : Int) ≤ (a : Int) + (tl : Int) := by omega
      have i6 : (a : Int) + (tl : Int) ≤ (lx : Int) := by omega
      have i7 : ¬ (lx : Int) < (a : Int) + (tl : Int) := by omega
      have j7 : decide ((lx : Int) < (a : Int) + (tl : Int)) = false := decide_eq_false i7
      have w1' : IntKind.i64.wrap ((a : Int) + (tl : Int)) = (a : Int) + (tl : Int) := IntWalk.i64_in _ (by omega)
      have w2' : ((a : Int) + (tl : Int)).toNat = a + tl := by omega
      clear hcell hlv hO1 hOi hi2 hOe g0 g1 g2 hno his htl' hO
      generalize mk t = bt at *
      go_upto_region 10 with fail
      go_quiet (fail)
      clear HO2 HB1 HA HX HLV HEX x0 x1 hex w1' w2'
      rcases how with ⟨how1, how2⟩ | ⟨how1, h13, h10, how2⟩ | ⟨how1, h10, how2⟩
      · have k1 : ¬ (a : Int) + (tl : Int) + 1 < (lx : Int) := by omega
        have k2 : ¬ (a : Int) + (tl : Int) < (lx : Int) := by omega
        go_wp2_with (fail)
        go_loopw [7] (fun kv wk => ∃ k : Nat, k ≤ tl ∧ kv = .int .i64 k ∧ wk = w2.drewN (q + nq)) (fun kv _ => tl - (intOf kv).toNat)
        case atStart => exact ⟨0, by omega, rfl, rfl⟩
        case round =>
          obtain ⟨k, hk, rfl, rfl⟩ := hrel
          by_cases hkt : k < tl
          · have hxk := HT.out k hkt (w2.drewN (q + nq))
            have hne := HNO.out k hkt
            obtain ⟨ch, hch⟩ : ∃ ch, t.getD k 0 = ch := ⟨_, rfl⟩
            rw [hch] at hxk hne
            have hcn : ((ch.toNat : Int) == 10) = false := by rw [beq_eq_false_iff_ne]; intro h; exact hne (UInt8.toNat_inj.1 (by simp; omega))
            have k5 : (k : Int) < (tl : Int) := by omega
            clear hne hch
            go_wp2_with (rw [hxk])
        
            go_roundw
            case rel => exact ⟨k + 1, by omega, by go_num, by first | rfl | trivial⟩
            case measure => simp [intOf]; omega
          · have k5 : ¬ (k : Int) < (tl : Int) := by omega
            go_wp2_with fail
            go_roundw
            case rel => exact ⟨at2, i + 1, q + nq, by omega, by omega, by congr 1; omega, by go_num, by simp, HN.out⟩
            case measure => simp [intOf]; omega
      · have k1 : (a : Int) + (tl : Int) + 1 < (lx : Int) := by omega
        have k0 : (a : Int) + (tl : Int) < (lx : Int) := by omega
        have k3 : (0 : Int) ≤ (a : Int) + (tl : Int) := by omega
        have hx1 := HIX.out (a + tl) (by omega) (w2.drewN (q + nq))
        have hx2 := HIX.out (a + tl + 1) (by omega) (w2.drewN (q + nq))
        rw [h13] at hx1
        rw [h10] at hx2
        push_cast at hx1 hx2
        go_wp2_with (first | rw [hx1] | rw [hx2])
        go_loopw [7] (fun kv wk => ∃ k : Nat, k ≤ tl ∧ kv = .int .i64 k ∧ wk = w2.drewN (q + nq)) (fun kv _ => tl - (intOf kv).toNat)
        case atStart => exact ⟨0, by omega, rfl, rfl⟩
        case round =>
          obtain ⟨k, hk, rfl, rfl⟩ := hrel
          by_cases hkt : k < tl
          · have hxk := HT.out k hkt (w2.drewN (q + nq))
            have hne := HNO.out k hkt
            obtain ⟨ch, hch⟩ : ∃ ch, t.getD k 0 = ch := ⟨_, rfl⟩
            rw [hch] at hxk hne
            have hcn : ((ch.toNat : Int) == 10) = false := by rw [beq_eq_false_iff_ne]; intro h; exact hne (UInt8.toNat_inj.1 (by simp; omega))
            have k5 : (k : Int) < (tl : Int) := by omega
            clear hne hch
            go_wp2_with (rw [hxk])
        
            go_roundw
            case rel => exact ⟨k + 1, by omega, by go_num, by first | rfl | trivial⟩
            case measure => simp [intOf]; omega
          · have k5 : ¬ (k : Int) < (tl : Int) := by omega
            go_wp2_with fail
            go_roundw
            case rel => exact ⟨at2, i + 1, q + nq, by omega, by omega, by congr 1; omega, by go_num, by simp, HN.out⟩
            case measure => simp [intOf]; omega
      · by_cases hlf : a + tl + 1 < lx
        · have k1 : (a : Int) + (tl : Int) + 1 < (lx : Int) := by omega
          have k0 : (a : Int) + (tl : Int) < (lx : Int) := by omega
          have k3 : (0 : Int) ≤ (a : Int) + (tl : Int) := by omega
          have hx1 := HIX.out (a + tl) (by omega) (w2.drewN (q + nq))
          rw [h10] at hx1
          push_cast at hx1
          go_wp2_with (first | rw [hx1])
          go_loopw [7] (fun kv wk => ∃ k : Nat, k ≤ tl ∧ kv = .int .i64 k ∧ wk = w2.drewN (q + nq)) (fun kv _ => tl - (intOf kv).toNat)
          case atStart => exact ⟨0, by omega, rfl, rfl⟩
          case round =>
            obtain ⟨k, hk, rfl, rfl⟩ := hrel
            by_cases hkt : k < tl
            · have hxk := HT.out k hkt (w2.drewN (q + nq))
              have hne := HNO.out k hkt
              obtain ⟨ch, hch⟩ : ∃ ch, t.getD k 0 = ch := ⟨_, rfl⟩
              rw [hch] at hxk hne
              have hcn : ((ch.toNat : Int) == 10) = false := by rw [beq_eq_false_iff_ne]; intro h; exact hne (UInt8.toNat_inj.1 (by simp; omega))
              have k5 : (k : Int) < (tl : Int) := by omega
              clear hne hch
              go_wp2_with (rw [hxk])
          
              go_roundw
              case rel => exact ⟨k + 1, by omega, by go_num, by first | rfl | trivial⟩
              case measure => simp [intOf]; omega
            · have k5 : ¬ (k : Int) < (tl : Int) := by omega
              go_wp2_with fail
              go_roundw
              case rel => exact ⟨at2, i + 1, q + nq, by omega, by omega, by congr 1; omega, by go_num, by simp, HN.out⟩
              case measure => simp [intOf]; omega
        · have k1 : ¬ (a : Int) + (tl : Int) + 1 < (lx : Int) := by omega
          have k0 : (a : Int) + (tl : Int) < (lx : Int) := by omega
          have k3 : (0 : Int) ≤ (a : Int) + (tl : Int) := by omega
          have hx1 := HIX.out (a + tl) (by omega) (w2.drewN (q + nq))
          rw [h10] at hx1
          push_cast at hx1
          go_wp2_with (first | rw [hx1])
          go_loopw [7] (fun kv wk => ∃ k : Nat, k ≤ tl ∧ kv = .int .i64 k ∧ wk = w2.drewN (q + nq)) (fun kv _ => tl - (intOf kv).toNat)
          case atStart => exact ⟨0, by omega, rfl, rfl⟩
          case round =>
            obtain ⟨k, hk, rfl, rfl⟩ := hrel
            by_cases hkt : k < tl
            · have hxk := HT.out k hkt (w2.drewN (q + nq))
              have hne := HNO.out k hkt
              obtain ⟨ch, hch⟩ : ∃ ch, t.getD k 0 = ch := ⟨_, rfl⟩
              rw [hch] at hxk hne
              have hcn : ((ch.toNat : Int) == 10) = false := by rw [beq_eq_false_iff_ne]; intro h; exact hne (UInt8.toNat_inj.1 (by simp; omega))
              have k5 : (k : Int) < (tl : Int) := by omega
              clear hne hch
              go_wp2_with (rw [hxk])
          
              go_roundw
              case rel => exact ⟨k + 1, by omega, by go_num, by first | rfl | trivial⟩
              case measure => simp [intOf]; omega
            · have k5 : ¬ (k : Int) < (tl : Int) := by omega
              go_wp2_with fail
              go_roundw
              case rel => exact ⟨at2, i + 1, q + nq, by omega, by omega, by congr 1; omega, by go_num, by simp, HN.out⟩
              case measure => simp [intOf]; omega
    · obtain rfl : i = n := by omega
      have hal : a = lx := by
        rcases Nat.lt_or_ge a lx with h | h
        · exfalso
          obtain ⟨t, at2, -, -, -, hlv⟩ := lv_step 4096 x a i (by rw [HLX.out]; exact h) (by rw [HLX.out]; omega)
          have h1 := hO.out
          rw [hlv, List.drop_of_length_le (by rw [HK.out]; exact Nat.le_refl _)] at h1
          cases h1
        · omega
      subst hal
      go_wp2_with fail
      go_ret
      exact ⟨by simp, below_drewN HB2.out _⟩
theorem joins_any (s : ByteArray) (w : World) : Calls Try.prog 4 #[.string s] w fun e w' => e = .returned (.bool true) ∧ Below w.heap.size w w' := by
  by_cases h : s.size ≤ 1000
  · have := joins_main s.data.toList w (by simpa using h)
    rwa [mk_eta] at this
  · exact joins_big s w h
end Go.Proofs.Ythgjfdjjnkgicaa
