/-
  The law 'unlike notes' (CellNotes) of reedbedlaw16 returns true for all inputs; no condition beyond the given row's.
-/
import Derived.Test.YtfadkkodamiohaaRows
import Derived.Test.YtfadkkodamiohaaNote5
import Derived.WalkKit
import Derived.ProofKit
import Derived.OpenShut
import Derived.ShutString
import Derived.ChangeOld
import Derived.Below
import Derived.HandedShaped
namespace Go.Proofs.Ytfadkkodamiohaa.cellNotesP
open Go.ChangeShapes Go.WideShapes Go.ChangeAt Go.RowKit Go.Deep Go.Rb
open Go.ChangeMaps (open_string shut_string)

theorem own : ownKnob Try.prog.godebug = none := by kernel_rfl
theorem laidOut : laidOutB Try.prog = true := by kernel_rfl
theorem lt_wf {z : Int} (h : (Lit.int .i64 z).wf = true) : z < 9223372036854775808 := by
  simp [Lit.wf, IntKind.wrap] at h
  omega
/-- The table's cells hold some numbers. -/
theorem tab_of_shaped {W : World} (h : W.ShapedOpen Try.prog) : ∃ G, Tab G W := by
  obtain ⟨cs, hh, hs, hr⟩ := h.1 0 (Array.replicate 20 (.int .u64 0)) 86 (of_decide_eq_true (by kernel_rfl)) (by kernel_rfl)
  obtain ⟨ts, hts, _, hall⟩ := hr (by kernel_rfl)
  have hts' : some (List.replicate 20 78) = some ts := (show Try.prog.cellTypes Try.prog.depth 86 = some (List.replicate 20 78) by kernel_rfl).symm.trans hts
  obtain rfl := Option.some.inj hts'
  rw [Array.size_replicate] at hs
  refine ⟨fun i => match cs[i]? with | some (.int _ n) => n | _ => 0, fun i hi => ?_⟩
  have hlt : i < cs.size := by omega
  have hi' : cs[i]? = some (cs[i]'hlt) := Array.getElem?_eq_getElem hlt
  obtain ⟨u, hu, hok⟩ := hall i _ hi'
  obtain rfl : u = 78 := by
    rw [List.length_replicate, Nat.mod_eq_of_lt hi, List.getElem?_replicate, if_pos hi] at hu
    exact (Option.some.inj hu).symm
  have hcell : W.cell? ⟨0, i, none⟩ = some (cs[i]'hlt) := by simp [World.cell?, hh, hlt]
  show W.cell? ⟨0, i, none⟩ = some (.int .u64 (match cs[i]? with | some (.int _ n) => n | _ => 0))
  rw [hcell, hi']
  unfold Cell.ok at hok
  rw [Try.underlying78] at hok
  generalize cs[i]'hlt = v at *
  cases v <;> simp at hok
  rw [hok.1]

set_option maxRecDepth 100000 in
theorem lifted (os : Os) (started : os.Started) (H : Type) (enc : TypeId × Value → H) :
    ReturnsInHanded {} Try.checked os 4 .any (Rows.cellNotesSpec.pre6 enc Try.prog Try.f4 Rows.cellNotesRow.domain false) (Rows.cellNotesSpec.post enc Try.prog Try.f4 false true false false) := by
  refine returnsInHanded_of_change_shaped (C := Try.checked) own started (by kernel_rfl) Try.func4
    (ChangeSpec.witness6 (enc := enc) (C := Try.checked) false ⟨#[], #[.int .i64 0, .string ByteArray.empty, .string ByteArray.empty], []⟩ 8 (by kernel_rfl) (by kernel_rfl) (by kernel_rfl) (by kernel_rfl)) ?_
  intro W base args ds gs before hval0 hW hcnd _ hSH _
  have hval : ∀ (j : Nat) t v, Try.f4.params[j]? = some t → args[j]? = some v → Value.okWide Try.prog W .any base t v := hval0
  have hW' := hW
  obtain ⟨p, q, hA0, hV, rfl, hfz, hnd⟩ := hW
  have hA : DataW.TrodAll enc Try.prog W 0 (fun _ => true) true Try.f4.params.toList args.toList ds p := hA0
  rw [Try.params4] at hA hval
  obtain ⟨v0, vs0, d0, ds0, p0, q0, hargs, rfl, rfl, h0, r0⟩ := trodAll_cons hA
  obtain ⟨v1, vs1, d1, ds1, p1, q1, rfl, rfl, rfl, h1, r1⟩ := trodAll_cons r0
  obtain ⟨v2, vs2, d2, ds2, p2, q2, rfl, rfl, rfl, h2, r2⟩ := trodAll_cons r1
  obtain ⟨rfl, rfl, rfl⟩ := trodAll_nil r2
  obtain rfl : args = #[v0, v1, v2] := by cases args; simp_all
  obtain ⟨rfl, rfl⟩ := trodVars_none hV
  have k0 := h0
  have lt0 : ∀ x ∈ p0, x.block < W.heap.size := by obtain ⟨m, hm⟩ := k0; exact DataW.trod_lt m _ _ _ hm
  have k1 := h1
  have lt1 : ∀ x ∈ p1, x.block < W.heap.size := by obtain ⟨m, hm⟩ := k1; exact DataW.trod_lt m _ _ _ hm
  have k2 := h2
  have lt2 : ∀ x ∈ p2, x.block < W.heap.size := by obtain ⟨m, hm⟩ := k2; exact DataW.trod_lt m _ _ _ hm
  obtain ⟨a0, rfl, -, -, w0⟩ := open_int Try.underlying30 (hval 0 30 v0 rfl rfl) h0
  obtain ⟨a1, rfl, -, -, w1⟩ := open_string Try.underlying9 (hval 1 9 v1 rfl rfl) h1
  obtain ⟨a2, rfl, -, -, w2⟩ := open_string Try.underlying9 (hval 2 9 v2 rfl rfl) h2
  obtain ⟨G, hTb⟩ := tab_of_shaped hSH
  clear hA0 hval0
  refine (notes_any G a0 (lt_wf w0) a1 a2 W hTb).mono fun e W' ⟨he, bel⟩ => ?_
  subst he
  exact ⟨_, rfl, _, _, _, [], _, [], hW', trodAll_mk1 (shut_bool Try.underlying4 _), (trodAll_cons_mk (Below.trod laidOut (by kernel_rfl) (of_decide_eq_true (by kernel_rfl)) k0 bel lt0) (trodAll_cons_mk (Below.trod laidOut (by kernel_rfl) (of_decide_eq_true (by kernel_rfl)) k1 bel lt1) (trodAll_cons_mk (Below.trod laidOut (by kernel_rfl) (of_decide_eq_true (by kernel_rfl)) k2 bel lt2) trodAll_mk0))), rfl, bel.frame _, fun h => by cases h⟩
end Go.Proofs.Ytfadkkodamiohaa.cellNotesP
namespace Go.Proofs.Ytfadkkodamiohaa
theorem cellNotes_holds : Rows.CellNotesSaid :=
  OpenClaim.holds_of_wide 4 Try.f4 rfl rfl rfl rfl rfl rfl rfl ⟨rfl, rfl, rfl, rfl, rfl⟩ rfl rfl rfl rfl rfl (by kernel_rfl) Try.func4 (by kernel_rfl)
    (of_decide_eq_true (by kernel_rfl)) (by unfold Func.isWrapper; first | (rw [if_pos (by decide +kernel)]; kernel_rfl) | (rw [if_neg (by decide +kernel)]; exact ⟨rfl, rfl⟩))
    (fun os started H enc _ => cellNotesP.lifted os started H enc)
end Go.Proofs.Ytfadkkodamiohaa
