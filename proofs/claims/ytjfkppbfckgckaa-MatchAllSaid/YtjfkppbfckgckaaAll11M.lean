/-
  The law MatchAll returns true; no condition beyond those that each theorem states.
-/
import Derived.Test.YtjfkppbfckgckaaG14
import Derived.Test.YtjfkppbfckgckaaG19
set_option linter.unusedVariables false
set_option linter.unusedSimpArgs false
namespace Go.Proofs.Ytjfkppbfckgckaa
set_option maxRecDepth 20000
open Go.RowKit Go.Rb
attribute [local irreducible] Go.wpQuiet

set_option maxHeartbeats 4000000 in
theorem all_law (s t : ByteArray) (w : World) : Calls Try.prog 3 #[.string s, .string t] w fun e w' => e = .returned (.bool true) ∧ Below w.heap.size w w' := by
  have HAW := Lib.hid (awake_any w)
  by_cases h60 : 60 < s.size
  · skip
    go_enter Try.func3, Try.ntmps3
    go_wp2_with fail
    refine HAW.out.mono ?_
    rintro e1 w1 ⟨rfl, hb1⟩
    have HB1 := Lib.hid hb1
    have HAW1 := Lib.hid (awake_any w1)
    clear hb1
    go_wp2_with fail
    refine HAW1.out.mono ?_
    rintro e2 w2 ⟨rfl, hb2⟩
    have HB2 := Lib.hid hb2
    clear hb2
    go_wp2_with fail
    go_ret
    exact ⟨rfl, below_trans HB1.out HB2.out⟩
  by_cases h40 : 40 < t.size
  · skip
    go_enter Try.func3, Try.ntmps3
    go_wp2_with fail
    refine HAW.out.mono ?_
    rintro e1 w1 ⟨rfl, hb1⟩
    have HB1 := Lib.hid hb1
    have HAW1 := Lib.hid (awake_any w1)
    clear hb1
    go_wp2_with fail
    refine HAW1.out.mono ?_
    rintro e2 w2 ⟨rfl, hb2⟩
    have HB2 := Lib.hid hb2
    clear hb2
    go_wp2_with fail
    go_ret
    exact ⟨rfl, below_trans HB1.out HB2.out⟩
  have hs60 : s.size ≤ 60 := by omega
  have ht40 : t.size ≤ 40 := by omega
  clear h60 h40
  go_enter Try.func3, Try.ntmps3
  go_wp2_with fail
  refine HAW.out.mono ?_
  rintro e1 w1 ⟨rfl, hb1⟩
  have HB1 := Lib.hid hb1
  have HM := Lib.hid (made2_any s hs60 w1)
  clear hb1 HAW
  go_wp2_with fail
  refine HM.out.mono ?_
  rintro e2 w2 ⟨hb2, rfl | ⟨A, n, c, p, rfl, hn, hn0, hn1, hc, hpr, hok, hset⟩⟩
  · have HB2 := Lib.hid (below_trans HB1.out hb2)
    clear hb2 HM
    go_wp2_with fail
    go_ret
    exact ⟨rfl, HB2.out⟩
  have HB2 := Lib.hid (below_trans HB1.out hb2)
  have HN := Lib.hid hn
  have HP := Lib.hid hpr
  have HOK := Lib.hid hok
  have HSET := Lib.hid hset
  have hs2 := HB2.out.size
  obtain ⟨L, hL⟩ := lastsOf p (rsL t)
  have HLL : Hid (∀ k, k ≤ (decT t).length → IsLast p (rsL t) k (L k)) := fun k hk => hL k (by rw [rsL, List.length_map]; exact hk)
  have hnz : ((n : Int) == 0) = false := by rw [beq_eq_false_iff_ne]; omega
  clear hb2 hn hpr hok hset hL HM
  have HRR := Lib.hid (refRight_any (p.map toIn) A n c w2 (HP.out.ins (Nat.le_refl _)) (by rw [List.length_map]; exact HN.out) (by omega) hc)
  rw [(rightP_iff HN.out).2 ⟨HOK.out, hn0⟩] at HRR
  go_wp2_with fail
  refine HRR.out.mono ?_
  rintro e3 w3 ⟨rfl, hb3⟩
  have HB3 := Lib.hid (below_trans HB2.out hb3)
  have HB23 := Lib.hid hb3
  have HP3 : Hid (PRd w3 w2.heap.size A p) := HP.out.below hb3
  have hs3 : w2.heap.size ≤ w3.heap.size := hb3.size
  clear hb3 HRR
  have HAM := Lib.hid (allM_any HN.out hn0 (by omega) HOK.out HSET.out (by omega : t.size ≤ 60) hc HLL.out w3 hs3 HP3.out)
  go_wp2_with fail
  refine HAM.out.mono ?_
  rintro e4 w4 ⟨v4, rfl, hh4, -, hb4⟩
  have HB4 := Lib.hid (below_trans HB3.out hb4)
  have HB24 := Lib.hid (below_trans HB23.out hb4)
  have HP4 : Hid (PRd w4 w2.heap.size A p) := HP.out.below HB24.out
  have hs4 := HB24.out.size
  have HH4 := Lib.hid hh4
  obtain ⟨A4, c4, hv4, hc4, -⟩ := Own.len_ hh4
  obtain ⟨n4, hn4⟩ : ∃ n4, (allP L (decT t).length ((decT t).length + 2) 0 none []).length = n4 := ⟨_, rfl⟩
  rw [hn4] at hv4 hc4
  subst hv4
  have HRA := Lib.hid (refAll_any HN.out hn0 (by omega) HOK.out HSET.out (by omega : t.size ≤ 60) hc HLL.out w4 hs4 HP4.out)
  clear hb4 HAM hh4 hn4
  go_wp2_with fail
  refine HRA.out.mono ?_
  rintro e5 w5 ⟨v5, rfl, hh5, -, hb5⟩
  have HB5 := Lib.hid (below_trans HB4.out hb5)
  obtain ⟨A1, c1, A2, c2, nn, hv1, rfl, hc1, hc2, hsame⟩ := same_right HLL.out (by omega) HH4.out hh5 hb5
  injection hv1 with hv1 hv2 hv3
  subst hv1 hv2 hv3
  have HSM := Lib.hid hsame
  clear hb5 HRA hh5 hsame
  go_wp2_with fail
  refine HSM.out.mono ?_
  rintro e6 w6 ⟨rfl, q2, rfl⟩
  have HBB := Lib.hid (below_drewN HB5.out q2)
  clear HSM
  go_wp2_with fail
  go_ret
  exact ⟨rfl, HBB.out⟩
end Go.Proofs.Ytjfkppbfckgckaa
