/-
  The law 'letters alone' (MatchPlain) of reedbedlaw11 returns true for all lists of letters; no condition beyond the given row's.
-/
import Derived.Test.YtjfkppbfckgckaaRows
import Derived.Test.YtjfkppbfckgckaaPlain11M
import Derived.Test.YtjfkppbfckgckaaBoolsTM
import Derived.WalkKit
import Derived.ProofKit
import Derived.OpenShut
import Derived.ShutString
import Derived.ChangeOld
import Derived.Below
set_option linter.unusedVariables false
set_option linter.unusedSimpArgs false
namespace Go.Proofs.Ytjfkppbfckgckaa.matchPlainP
open Go.ChangeShapes Go.WideShapes Go.ChangeAt Go.RowKit Go.Deep Go.Rb
open Go.ChangeMaps (open_string shut_string)

theorem own : ownKnob Try.prog.godebug = none := by kernel_rfl
theorem laidOut : laidOutB Try.prog = true := by kernel_rfl

set_option maxRecDepth 100000 in
theorem lifted (os : Os) (started : os.Started) (H : Type) (enc : TypeId × Value → H) :
    ReturnsInHanded {} Try.checked os 4 .any (Rows.matchPlainSpec.pre6 enc Try.prog Try.f4 Rows.matchPlainRow.domain false) (Rows.matchPlainSpec.post enc Try.prog Try.f4 false true false false) := by
  refine returnsInHanded_of_change (C := Try.checked) own started (by kernel_rfl) Try.func4
    (ChangeSpec.witness6 (enc := enc) (C := Try.checked) false ⟨#[], #[.slice none 0 0, .slice none 0 0], []⟩ 8 (by kernel_rfl) (by kernel_rfl) (by kernel_rfl) (by kernel_rfl)) ?_
  intro W base args ds gs before hval0 hW hcnd _
  have hval : ∀ (j : Nat) t v, Try.f4.params[j]? = some t → args[j]? = some v → Value.okWide Try.prog W .any base t v := hval0
  have hW' := hW
  obtain ⟨p, q, hA0, hV, rfl, hfz, hnd⟩ := hW
  have hA : DataW.TrodAll enc Try.prog W 0 (fun _ => true) true Try.f4.params.toList args.toList ds p := hA0
  rw [Try.params4] at hA hval
  obtain ⟨v0, vs0, d0, ds0, p0, q0, hargs, rfl, rfl, h0, r0⟩ := trodAll_cons hA
  obtain ⟨v1, vs1, d1, ds1, p1, q1, rfl, rfl, rfl, h1, r1⟩ := trodAll_cons r0
  obtain ⟨rfl, rfl, rfl⟩ := trodAll_nil r1
  obtain rfl : args = #[v0, v1] := by cases args; simp_all
  obtain ⟨rfl, rfl⟩ := trodVars_none hV
  have k0 := h0
  have lt0 : ∀ x ∈ p0, x.block < W.heap.size := by obtain ⟨m, hm⟩ := k0; exact DataW.trod_lt m _ _ _ hm
  have k1 := h1
  have lt1 : ∀ x ∈ p1, x.block < W.heap.size := by obtain ⟨m, hm⟩ := k1; exact DataW.trod_lt m _ _ _ hm
  have hv0 := hval 0 30 v0 rfl rfl
  obtain ⟨A0, n0, c0, rfl⟩ := okWide_slice Try.underlying30 hv0
  obtain ⟨z0, hz0, hc0, hr0⟩ : ∃ l : List Bool, l.length = n0 ∧ n0 ≤ c0 ∧ Rd W W.heap.size 1 A0 n0 (l.map Value.bool) := by
    obtain ⟨fuel, hf⟩ := h0
    exact open_bools (by simpa [Value.cells] using hf)
  have hv1 := hval 1 30 v1 rfl rfl
  obtain ⟨A1, n1, c1, rfl⟩ := okWide_slice Try.underlying30 hv1
  obtain ⟨z1, hz1, hc1, hr1⟩ : ∃ l : List Bool, l.length = n1 ∧ n1 ≤ c1 ∧ Rd W W.heap.size 1 A1 n1 (l.map Value.bool) := by
    obtain ⟨fuel, hf⟩ := h1
    exact open_bools (by simpa [Value.cells] using hf)
  clear hA0 hval0
  refine (plain_law z0 z1 A0 A1 n0 c0 n1 c1 W hr0 hr1 hc0 hc1).mono fun e W' ⟨he, bel⟩ => ?_
  subst he
  exact ⟨_, rfl, _, _, _, [], _, [], hW', trodAll_mk1 (shut_bool Try.underlying4 _), (trodAll_cons_mk (Below.trod laidOut (by kernel_rfl) (of_decide_eq_true (by kernel_rfl)) k0 bel lt0) (trodAll_cons_mk (Below.trod laidOut (by kernel_rfl) (of_decide_eq_true (by kernel_rfl)) k1 bel lt1) trodAll_mk0)), rfl, bel.frame _, fun h => by cases h⟩
end Go.Proofs.Ytjfkppbfckgckaa.matchPlainP
namespace Go.Proofs.Ytjfkppbfckgckaa
theorem matchPlain_holds : Rows.MatchPlainSaid :=
  OpenClaim.holds_of_wide 4 Try.f4 rfl rfl rfl rfl rfl rfl rfl ⟨rfl, rfl, rfl, rfl, rfl⟩ rfl rfl rfl rfl rfl (by kernel_rfl) Try.func4 (by kernel_rfl)
    (of_decide_eq_true (by kernel_rfl)) (by unfold Func.isWrapper; first | (rw [if_pos (by decide +kernel)]; kernel_rfl) | (rw [if_neg (by decide +kernel)]; exact ⟨rfl, rfl⟩))
    (fun os started H enc _ => matchPlainP.lifted os started H enc)
end Go.Proofs.Ytjfkppbfckgckaa
