/-
  The contracts of Names, Over, and of Add where nothing is handed in; no condition beyond those that each theorem states.
-/
import Derived.Test.YtamgngmbbbegpaaLoom10
import Derived.Test.YtamgngmbbbegpaaBytes
namespace Go.Proofs.Ytamgngmbbbegpaa
open Go.RowKit Go.Rb
attribute [local irreducible] Go.wpQuiet

def nm (i : Nat) : ByteArray := ⟨#[by_ (97 + (i : Int))]⟩
def nmV (i : Nat) : Value := .string (nm i)
set_option maxHeartbeats 1000000 in
theorem tName_any {w : World} {tb sp i : Nat} (hb : Blk w tb 53 #[pp sp, nV i]) (hi : i < 26) :
    Calls Try.prog 44 #[pp tb] w fun e w' => e = .returned (nmV i) ∧ Below w.heap.size w w' := by
  obtain ⟨c0, c1⟩ := box0 hb
  have hr : (i : Int).tmod 26 = (i : Int) := by rw [Int.tmod_eq_emod_of_nonneg (by omega), Int.emod_eq_of_lt (by omega) (by omega)]
  obtain ⟨z, hz⟩ : ∃ z : Nat, 97 + (i : Int) = (z : Int) := ⟨97 + i, by omega⟩
  have hz2 : (z : Int) % 256 = (z : Int) := by omega
  have hzb : 97 ≤ (z : Int) ∧ (z : Int) < 123 := by omega
  have hcv : (convert 45 9 (.slice (some ⟨w.heap.size, 0, none⟩) 1 1)).run Try.prog (w.alloc (.cells #[.int .u8 (z : Int)] 5)) = .ok (nmV i) (w.alloc (.cells #[.int .u8 (z : Int)] 5)) := by
    have := conv_own (bs := [by_ (97 + (i : Int))]) (n := 1) (v := .slice (some ⟨w.heap.size, 0, none⟩) 1 1) (W := w.alloc (.cells #[.int .u8 (z : Int)] 5)) (by
      have := Own.lit w 5 1 1 #[.int .u8 (z : Int)] rfl (by decide)
      rw [show ([by_ (97 + (i : Int))].map bV) = [.int .u8 (z : Int)] from by rw [hz]; simp [bV_by (z : Int) (by omega) (by omega)]]
      exact this)
    exact this
  clear hb
  generalize nmV i = nv at *
  unfold pp
  go_enter Try.func44, Try.ntmps44
  go_wp2_with (rw [hcv])
  go_ret
  exact ⟨rfl, below_al (Below.refl _ _) _⟩

section
variable {w w' : World} {B : Nat} {S L T : Nat → Prop} {lp sp : Nat} {J : Option Addr} {n cj : Nat} {tv lv tnv : Value} {tb : Nat → Nat} {m : Nat} {js : List Jb} {tk : List Int} {tn : List Nat}
def nms (n : Nat) : List Value := (List.range n).map nmV
theorem nms_succ (n : Nat) : nms (n + 1) = nms n ++ [nmV n] := by simp [nms, List.range_succ]
theorem nms_len (n : Nat) : (nms n).length = n := by simp [nms]
theorem infoS : (Try.prog.info? 9).map (fun i => (i.zero, i.size, i.bytes)) = some (some (.string ⟨#[]⟩), 1, 16) := by kernel_rfl
set_option maxRecDepth 20000 in
set_option maxHeartbeats 2000000 in
theorem lNames_any (h : LmA w B S L lp sp J n cj tv lv tnv tb n js tk tn) (hn : n ≤ 26) :
    Calls Try.prog 18 #[pp lp] w fun e w' => ∃ v, e = .returned v ∧ Own w' 9 1 v n (nms n) ∧ Below w.heap.size w w' ∧ ∀ k, v.ownBlock = some k → w.heap.size ≤ k := by
  obtain ⟨i0, hi0, hz0, hz1, hz2⟩ := info_parts infoS
  have HH := Lib.hid h
  have c0 := h.c0
  obtain ⟨Al, cl, rfl, -, -⟩ := h.lo.len_
  clear h
  unfold pp
  go_enter Try.func18, Try.ntmps18
  go_wp2_with fail
  go_loopw [3, 11] (fun v iv wr => ∃ i : Nat, i ≤ n ∧ iv = .int .i64 i ∧ Own wr 9 1 v i (nms i) ∧ (∀ k, v.ownBlock = some k → w.heap.size ≤ k) ∧ Below w.heap.size w wr) (fun _ iv _ => n - (intOf iv).toNat)
  case atStart => exact ⟨0, by omega, rfl, Own.nil_ w 9 1, by simp [Value.ownBlock], Below.refl _ _⟩
  case round =>
    obtain ⟨i, hi, rfl, hv, hkv, hbw⟩ := hrel
    by_cases hlt : i < n
    · have i1 : (i : Int) < (n : Int) := by omega
      have hh := HH.out.below hbw
      obtain ⟨gl, ol, cl', e, k0⟩ := hh.iat hlt
      simp only [Value.slice.injEq] at e
      obtain ⟨rfl, -, rfl⟩ := e
      have HNM := Lib.hid (tName_any (hh.bx i hlt) (by omega))
      have HB := Lib.hid hbw
      obtain ⟨A, c, rfl, -, -⟩ := hv.len_
      have HV := Lib.hid hv; have HK := Lib.hid hkv
      clear hv hkv hbw hh
      unfold iF at k0
      have hs := nms_succ i
      have HS := Lib.hid hs
      clear hs
      generalize tb i = x at *
      generalize nms i = xs at *
      obtain ⟨nv, hnv⟩ : ∃ nv, nm i = nv := ⟨_, rfl⟩
      unfold nmV at HNM HS
      rw [hnv] at HNM HS
      clear hnv
      unfold pp at k0 HNM
      have hmN := meth_name
      go_wp2_with (first
        | (go_at_call 44; refine HNM.out.mono ?_; rintro e1 w1 ⟨rfl, hb1⟩; have HB1 := Lib.hid (below_trans HB.out hb1); have HV1 := Lib.hid (HV.out.below hb1 fun _ h => HV.out.lt h); clear hb1)
        | (at_builtin; refine wpList_append_mine _ rfl (.tmp 15) (.tmp 18) _ rfl 9 i0 _ 1 16 Try.underlying42 hi0 hz0 hz1 hz2 rfl (by omega) (.slice A i c) i xs rfl (by exact HV1.out.alloc _) _ 1 1 [_] rfl rfl (by exact news_push rfl rfl) (by simp [Value.oneCell']) (by omega) (by simp only [maxLen]; omega) (by omega) _ rfl ?_; intro g5 o5 c5 w5 hown5 hgrow5 hat5; have HO5 := Lib.hid hown5; have HB5 := Lib.hid (Below.grown (HB1.out.alloc HB1.out.size _) hgrow5 (by simp; have := HB1.out.size; omega) HK.out); have HK5 : Hid (w.heap.size ≤ g5) := (by show _ ≤ _; rcases hat5 with h | h; exact HK.out _ h; rw [h]; have := HB1.out.size; simp; omega); clear hown5 hgrow5 hat5))
      go_roundw
      case rel => exact ⟨i + 1, by omega, by go_num, by rw [HS.out]; exact HO5.out, fun k hk => by simp [Value.ownBlock] at hk; rw [← hk]; exact HK5.out, HB5.out⟩
      case measure => simp [intOf]; omega
    · obtain rfl : i = n := by omega
      have HV := Lib.hid hv; have HK := Lib.hid hkv; have HB := Lib.hid hbw
      clear hv hkv hbw
      go_wp2_with fail
      go_ret
      exact ⟨_, rfl, HV.out, HB.out, HK.out⟩

theorem addnil_any (w : World) (lp : Nat) : Calls Try.prog 17 #[pp lp, .nilIface] w fun e w' => e = .returned (.int .i64 (-1)) ∧ w = w' := by
  unfold pp
  go_enter Try.func17, Try.ntmps17
  go_wp2
  go_ret
  exact ⟨rfl, rfl⟩

def allOver (js : List Jb) (tk : List Int) (n : Nat) : Prop := ∀ i, i < n → overP js tk i
noncomputable instance (js : List Jb) (tk : List Int) (n : Nat) : Decidable (allOver js tk n) := Classical.propDecidable _
theorem over1_any (h : LmA w B S L lp sp J n cj tv lv tnv tb n js tk tn) (i : Nat) (hi : i < n) :
    Calls Try.prog 27 #[.iface 51 (.pointer (some ⟨tb i, 0, none⟩))] w fun e w' => e = .returned (.bool (!decide (overP js tk i))) ∧ ∃ q, w' = w.drewN q := by
  have HO := Lib.hid (tOver_any h.sa i hi (h.bx i hi))
  have hmO := meth_over
  clear h
  generalize tb i = x at *
  generalize decide (overP js tk i) = o at *
  unfold pp at HO
  go_enter Try.func27, Try.ntmps27
  go_wp2_with (go_at_call 45; refine HO.out.mono ?_; rintro e1 w1 ⟨rfl, q, rfl⟩)
  go_ret
  exact ⟨rfl, _, rfl⟩
set_option maxHeartbeats 2000000 in
theorem index_any (h : LmA w B S L lp sp J n cj tv lv tnv tb n js tk tn) (hn : n ≤ 1000) :
    Calls Try.prog 28 #[lv, .func (.func 27) #[] #[]] w fun e w' => ∃ z : Int, e = .returned (.int .i64 z) ∧ (0 ≤ z ↔ ¬ allOver js tk n) ∧ Below w.heap.size w w' := by
  have HH := Lib.hid h
  obtain ⟨Al, cl, rfl, -, -⟩ := h.lo.len_
  clear h
  go_enter Try.func28, Try.ntmps28
  go_wp2_with fail
  go_loopw [8] (fun iv wr => ∃ i : Nat, i ≤ n ∧ iv = .int .i64 i ∧ Hid (∀ k, k < i → overP js tk k) ∧ Below w.heap.size w wr) (fun iv _ => n - (intOf iv).toNat)
  case atStart => exact ⟨0, by omega, rfl, fun k hk => by omega, Below.refl _ _⟩
  case round =>
    obtain ⟨i, hi, rfl, hno, hbw⟩ := hrel
    have HB := Lib.hid hbw
    by_cases hlt : i < n
    · have i1 : (i : Int) < (n : Int) := by omega
      have hh := HH.out.below hbw
      obtain ⟨gl, ol, cl', e, k0⟩ := hh.iat hlt
      simp only [Value.slice.injEq] at e
      obtain ⟨rfl, -, rfl⟩ := e
      have HC := Lib.hid (over1_any hh i hlt)
      clear hh hbw
      unfold iF pp at k0
      generalize tb i = x at *
      by_cases ho : overP js tk i
      · rw [decide_eq_true ho] at HC
        have hno2 : Hid (∀ k, k < i + 1 → overP js tk k) := fun k hk => by
          by_cases e : k = i
          · subst e; exact ho
          · exact hno.out k (by omega)
        clear ho
        go_wp2_with (go_at_call 27; refine HC.out.mono ?_; rintro e1 w1 ⟨rfl, q, rfl⟩)
        go_roundw
        case rel => exact ⟨i + 1, by omega, by go_num, hno2, below_drewN HB.out q⟩
        case measure => simp [intOf]; omega
      · rw [decide_eq_false ho] at HC
        have hna : Hid (¬ allOver js tk n) := fun hh => ho (hh i hlt)
        clear ho
        go_wp2_with (go_at_call 27; refine HC.out.mono ?_; rintro e1 w1 ⟨rfl, q, rfl⟩)
        go_ret
        exact ⟨_, rfl, ⟨fun _ => hna.out, fun _ => by omega⟩, below_drewN HB.out q⟩
    · obtain rfl : i = n := by omega
      have hy : Hid (allOver js tk i) := hno.out
      clear hno hbw
      go_wp2_with fail
      go_ret
      exact ⟨-1, rfl, ⟨fun h => by omega, fun h => absurd hy.out h⟩, HB.out⟩
theorem contains_any (h : LmA w B S L lp sp J n cj tv lv tnv tb n js tk tn) (hn : n ≤ 1000) :
    Calls Try.prog 26 #[lv, .func (.func 27) #[] #[]] w fun e w' => e = .returned (.bool (!decide (allOver js tk n))) ∧ Below w.heap.size w w' := by
  have HI := Lib.hid (index_any h hn)
  obtain ⟨Al, cl, rfl, -, -⟩ := h.lo.len_
  clear h
  go_enter Try.func26, Try.ntmps26
  go_wp2_with fail
  refine HI.out.mono ?_
  rintro e1 w1 ⟨z, rfl, hz, hb⟩
  have HB := Lib.hid hb
  have e : decide ((0 : Int) ≤ z) = !decide (allOver js tk n) := by
    by_cases ha : allOver js tk n
    · rw [decide_eq_true ha, decide_eq_false (fun h => hz.1 h ha)]; rfl
    · rw [decide_eq_false ha, decide_eq_true (hz.2 ha)]; rfl
  have HE := Lib.hid e
  clear hz hb e
  go_wp2_with fail
  go_ret
  exact ⟨by rw [← HE.out]; rfl, HB.out⟩
set_option maxHeartbeats 2000000 in
theorem lOver_any (h : LmA w B S L lp sp J n cj tv lv tnv tb n js tk tn) (hn : n ≤ 1000) :
    Calls Try.prog 21 #[pp lp] w fun e w' => e = .returned (.bool (decide (allOver js tk n))) ∧ Below w.heap.size w w' := by
  have HC := Lib.hid (contains_any h hn)
  have c0 := h.c0
  obtain ⟨Al, cl, rfl, -, -⟩ := h.lo.len_
  clear h
  generalize decide (allOver js tk n) = o at *
  unfold pp
  go_enter Try.func21, Try.ntmps21
  go_wp2_with fail
  refine HC.out.mono ?_
  rintro e1 w1 ⟨rfl, hb⟩
  have HB := Lib.hid hb
  clear hb
  go_wp2_with fail
  go_ret
  exact ⟨by simp, HB.out⟩
end
end Go.Proofs.Ytamgngmbbbegpaa
