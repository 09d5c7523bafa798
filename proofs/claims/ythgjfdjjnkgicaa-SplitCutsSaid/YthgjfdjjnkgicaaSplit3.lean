/-
  The contract of the splitter's Close; no condition beyond those that each theorem states.
-/
import Derived.Test.YthgjfdjjnkgicaaSplit2
import Derived.Deep.RegionWith
namespace Go.Proofs.Ythgjfdjjnkgicaa
open Go.RowKit Go.Rb
attribute [local irreducible] Go.wpQuiet

def clOut (s : SS) : List Rc := if s.over then [] else if s.held = [] then [] else if s.most < s.held.length then [] else [⟨s.n, s.a, s.held⟩]
def clE (s : SS) : Int := if s.over then 0 else if s.held = [] then 0 else if s.most < s.held.length then 10 else 0
/-- It is over. -/
def Ended (w : World) (p : Nat) (w' : World) : Prop := ∃ s', Went w p s' w' ∧ s'.over = true ∧ s'.held = []
set_option maxHeartbeats 4000000 in
theorem close_any {p : Nat} {s : SS} (w : World) (h : Rep w p s) (hm : s.most ≤ 4096) (hh : s.held.length ≤ 1000000) (hn : s.n ≤ 100000000) (ha : s.a ≤ 100000000) :
    Calls Try.prog 14 #[pp p] w fun e w' => ∃ v, e = .returned (.tuple #[v, .int .i64 (clE s)]) ∧ Own w' 32 3 v (clOut s).length (rcs (clOut s)) ∧ (∀ k, v.ownBlock = some k → w.heap.size ≤ k) ∧ Ended w p w' := by
  have c4 := h.c4
  have c1 := h.c1
  have hpl := h.lt
  have hz := mk_size s.held
  have hemp : (mk s.held).toList.isEmpty = s.held.isEmpty := by rw [mk_toList]
  have hE : clE s = if s.over then 0 else if s.held = [] then 0 else if s.most < s.held.length then 10 else 0 := rfl
  have hO : clOut s = if s.over then [] else if s.held = [] then [] else if s.most < s.held.length then [] else [⟨s.n, s.a, s.held⟩] := rfl
  obtain ⟨E0, hE0⟩ : ∃ e, clE s = e := ⟨_, rfl⟩
  obtain ⟨O0, hO0⟩ : ∃ e, clOut s = e := ⟨_, rfl⟩
  rw [hE0] at hE ⊢
  rw [hO0] at hO ⊢
  clear hE0 hO0
  have HE := Lib.hid (end_any w h)
  by_cases ho : s.over = true
  · rw [if_pos ho] at hE hO
    subst hE hO
    rw [ho] at c4
    clear h hemp
    unfold pp at HE ⊢
    go_enter Try.func14, Try.ntmps14
    go_wp2_with (go_at_call 18; refine HE.out.mono ?_; rintro e2 w2 ⟨rfl, hw2⟩; have HW2 := Lib.hid hw2; clear hw2)
    go_ret2
    exact ⟨.slice none 0 0, rfl, Own.nil_ _ _ _, by simp [Value.ownBlock], _, HW2.out, rfl, rfl⟩
  · have ho' : s.over = false := by simpa using ho
    rw [if_neg ho] at hE hO
    rw [ho'] at c4
    by_cases hl : s.held = []
    · rw [if_pos hl] at hE hO
      subst hE hO
      rw [hl] at hemp
      have hemp' : (mk s.held).toList.isEmpty = true := by rw [mk_toList, hl]; rfl
      clear h hemp hl ho ho'
      generalize mk s.held = b at *
      unfold pp at HE ⊢
      go_enter Try.func14, Try.ntmps14
      go_wp2_with (go_at_call 18; refine HE.out.mono ?_; rintro e2 w2 ⟨rfl, hw2⟩; have HW2 := Lib.hid hw2; clear hw2)
      go_ret2
      exact ⟨.slice none 0 0, rfl, Own.nil_ _ _ _, by simp [Value.ownBlock], _, HW2.out, rfl, rfl⟩
    · rw [if_neg hl] at hE hO
      have hemp' : (mk s.held).toList.isEmpty = false := by rw [mk_toList]; cases hq : s.held with | nil => exact absurd hq hl | cons _ _ => rfl
      by_cases hlg : s.most < s.held.length
      · rw [if_pos hlg] at hE hO
        subst hE hO
        have HRC : Hid (∀ W, Below w.heap.size w W → Calls Try.prog 16 #[pp p, .string (mk s.held), .int .i64 (s.held.length : Int)] W fun e w' => e = .returned (.tuple #[.agg #[.int .i64 0, .int .i64 0, .string ⟨#[]⟩], .int .i64 10]) ∧ Went W p (endS s) w') := fun W hW =>
          record_long s.held s.held.length W (h.below hW) hlg hh
        clear h hemp hl ho ho'
        generalize mk s.held = b at *
        generalize s.held.length = m at *
        unfold pp at HE HRC ⊢
        go_enter Try.func14, Try.ntmps14
        go_wp2_with fail
        go_region_with (go_at_call 16; go_loud (refine (HRC.out _ (by repeat (first | exact Below.refl _ _ | refine below_al ?_ _ | refine Below.drew ?_))).mono ?_; rintro e3 w3 ⟨rfl, hw3⟩; have HW3 := Lib.hid hw3; (try (have hbk := (show Blk (w.alloc (.cells #[.int .i64 0, .int .i64 0, .string ⟨#[]⟩] 32)).drew w.heap.size 32 #[.int .i64 0, .int .i64 0, .string ⟨#[]⟩] from Blk.new w 32 #[.int .i64 0, .int .i64 0, .string ⟨#[]⟩]).only hw3.1 (by omega); have z0 := hbk.cell 0; have z1 := hbk.cell 1; have z2 := hbk.cell 2; simp only [List.getElem?_toArray, List.getElem?_cons_zero, List.getElem?_cons_succ] at z0 z1 z2; have fz0 := hbk.frozen 0; have fz1 := hbk.frozen 1; have fz2 := hbk.frozen 2; have HBK := Lib.hid hbk; clear hbk)); clear hw3))
        all_goals (go_wp2_with fail)
        all_goals first
          | (have HEE := end_any (w3.alloc (.cells #[.int .i64 0, .int .i64 0, .string ⟨#[]⟩] 32)) (HW3.out.2.below (below_al (Below.refl _ w3) _)); unfold pp at HEE; refine HEE.mono ?_; rintro e4 w4 ⟨rfl, hw4⟩
             have HO4 := Lib.hid (((((Only.refl (fun k => k = p) w).drew).trans HW3.out.1 (fun _ _ h => h)).alloc (.cells #[.int .i64 0, .int .i64 0, .string ⟨#[]⟩] 32)).trans hw4.1 (fun _ _ h => h)))
          | (have HEE := end_any (set3 w3 w.heap.size (.int .i64 0) (.int .i64 0) (.string ⟨#[]⟩)) (HW3.out.2.frame (set3_one _ _ _ _ _) (by omega)); unfold pp set3 at HEE; refine HEE.mono ?_; rintro e4 w4 ⟨rfl, hw4⟩
             have HO4 := Lib.hid ((set3_only w3 w.heap.size (.int .i64 0) (.int .i64 0) (.string ⟨#[]⟩) (Nat.le_refl _) (((((Only.refl (fun k => k = p) w).alloc (.cells #[.int .i64 0, .int .i64 0, .string ⟨#[]⟩] 32)).drew).trans HW3.out.1 (fun _ _ h => h)))).trans hw4.1 (fun _ _ h => h)))
        all_goals have HR4 := Lib.hid hw4.2
        all_goals clear hw4
        all_goals (go_wp2_with fail)
        all_goals go_ret2
        all_goals exact ⟨.slice none 0 0, rfl, Own.nil_ _ _ _, by simp [Value.ownBlock], _, ⟨HO4.out, HR4.out⟩, rfl, rfl⟩
      · rw [if_neg hlg] at hE hO
        have HH := Lib.hid h
        have HRC : Hid (∀ W, Below w.heap.size w W → Calls Try.prog 16 #[pp p, .string (mk s.held), .int .i64 (s.held.length : Int)] W fun e w' => e = .returned (.tuple #[.agg #[.int .i64 (s.n : Int), .int .i64 (s.a : Int), .string (mk s.held)], .int .i64 0]) ∧ Went W p { s with held := s.held.drop s.held.length, n := s.n + 1, a := s.a + s.held.length } w') := fun W hW => by
          have := record_ok s.held s.held.length W (h.below hW) (by omega) hm (Nat.le_refl _) hh hn ha
          simp only [rcv, nV] at this
          exact this
        have HOO : Hid (rcs O0 = [.int .i64 (s.n : Int), .int .i64 (s.a : Int), .string (mk s.held)] ∧ O0.length = 1) := by rw [hO]; exact ⟨rfl, rfl⟩
        subst hE
        obtain ⟨S3, hS3⟩ : ∃ S3, { s with held := s.held.drop s.held.length, n := s.n + 1, a := s.a + s.held.length } = S3 := ⟨_, rfl⟩
        rw [hS3] at HRC
        clear h hemp hl ho ho' hS3 hO
        generalize mk s.held = b at *
        generalize s.held.length = m at *
        unfold pp at HE HRC ⊢
        go_enter Try.func14, Try.ntmps14
        go_wp2_with fail
        go_region_with (go_at_call 16; go_loud (refine (HRC.out _ (by repeat (first | exact Below.refl _ _ | refine below_al ?_ _ | refine Below.drew ?_))).mono ?_; rintro e3 w3 ⟨rfl, hw3⟩; have HW3 := Lib.hid hw3; (try (have hbk := (show Blk (w.alloc (.cells #[.int .i64 0, .int .i64 0, .string ⟨#[]⟩] 32)).drew w.heap.size 32 #[.int .i64 0, .int .i64 0, .string ⟨#[]⟩] from Blk.new w 32 #[.int .i64 0, .int .i64 0, .string ⟨#[]⟩]).only hw3.1 (by omega); have z0 := hbk.cell 0; have z1 := hbk.cell 1; have z2 := hbk.cell 2; simp only [List.getElem?_toArray, List.getElem?_cons_zero, List.getElem?_cons_succ] at z0 z1 z2; have fz0 := hbk.frozen 0; have fz1 := hbk.frozen 1; have fz2 := hbk.frozen 2; have HBK := Lib.hid hbk; clear hbk)); clear hw3))
        all_goals (go_wp2_with fail)
        all_goals first
          | (have HEE := end_any (w3.alloc (.cells #[.int .i64 (s.n : Int), .int .i64 (s.a : Int), .string b] 32)) (HW3.out.2.below (below_al (Below.refl _ w3) _)); unfold pp at HEE; refine HEE.mono ?_; rintro e4 w4 ⟨rfl, hw4⟩
             have HO4 := Lib.hid (((((Only.refl (fun k => k = p) w).drew).trans HW3.out.1 (fun _ _ h => h)).alloc (.cells #[.int .i64 (s.n : Int), .int .i64 (s.a : Int), .string b] 32)).trans hw4.1 (fun _ _ h => h))
             have hp3 := HW3.out.2.lt
             have hbb := (Blk.new w3 32 #[.int .i64 (s.n : Int), .int .i64 (s.a : Int), .string b]).only hw4.1 (by omega))
          | (have HEE := end_any (set3 w3 w.heap.size (.int .i64 (s.n : Int)) (.int .i64 (s.a : Int)) (.string b)) (HW3.out.2.frame (set3_one _ _ _ _ _) (by omega)); unfold pp at HEE; refine HEE.mono ?_; rintro e4 w4 ⟨rfl, hw4⟩
             have HO4 := Lib.hid ((set3_only w3 w.heap.size (.int .i64 (s.n : Int)) (.int .i64 (s.a : Int)) (.string b) (Nat.le_refl _) (((((Only.refl (fun k => k = p) w).alloc (.cells #[.int .i64 0, .int .i64 0, .string ⟨#[]⟩] 32)).drew).trans HW3.out.1 (fun _ _ h => h)))).trans hw4.1 (fun _ _ h => h))
             have hbb := (set3_blk (.int .i64 (s.n : Int)) (.int .i64 (s.a : Int)) (.string b) HBK.out).only hw4.1 (by omega))
        all_goals have HR4 := Lib.hid hw4.2
        all_goals have z0' := hbb.cell 0
        all_goals have z1' := hbb.cell 1
        all_goals have z2' := hbb.cell 2
        all_goals simp only [List.getElem?_toArray, List.getElem?_cons_zero, List.getElem?_cons_succ] at z0' z1' z2'
        all_goals clear hw4 hbb
        all_goals (go_wp2_with fail)
        all_goals go_ret2
        all_goals refine ⟨.slice (some ⟨w4.heap.size, 0, none⟩) 1 1, rfl, ?_, ?_, _, ⟨HO4.out.alloc _, HR4.out.below (below_al (Below.refl _ _) _)⟩, rfl, rfl⟩
        all_goals first
          | (rw [HOO.out.1, HOO.out.2]; exact Own.lit w4 32 3 1 #[.int .i64 (s.n : Int), .int .i64 (s.a : Int), .string b] rfl (by decide))
          | (intro k hk; simp [Value.ownBlock] at hk; have := HO4.out.size; omega)
end Go.Proofs.Ythgjfdjjnkgicaa
