/-
  The contracts of the document's List and Pick; no condition beyond those that each theorem states.
-/
import Derived.Test.YtamgngmbbbegpaaLoom1
namespace Go.Proofs.Ytamgngmbbbegpaa
open Go.RowKit Go.Rb
attribute [local irreducible] Go.wpQuiet

def nV (k : Nat) : Value := .int .i64 (k : Int)
def listP (js : List Jb) (tk : List Int) (n : Nat) : List Nat := (List.range n).filter fun i => decide (readyP js tk i)
theorem listP_yes {js : List Jb} {tk : List Int} {i : Nat} (h : readyP js tk i) : listP js tk (i + 1) = listP js tk i ++ [i] := by
  unfold listP; rw [List.range_succ, List.filter_append]; simp [h]
theorem listP_no {js : List Jb} {tk : List Int} {i : Nat} (h : ¬ readyP js tk i) : listP js tk (i + 1) = listP js tk i := by
  unfold listP; rw [List.range_succ, List.filter_append]; simp [h]
theorem listP_len (js : List Jb) (tk : List Int) (n : Nat) : (listP js tk n).length ≤ n := by
  unfold listP
  exact Nat.le_trans (List.length_filter_le _ _) (by simp)
theorem listP_lt {js : List Jb} {tk : List Int} {n i : Nat} (h : i ∈ listP js tk n) : i < n ∧ readyP js tk i := by
  unfold listP at h
  rw [List.mem_filter] at h
  exact ⟨List.mem_range.1 h.1, by simpa using h.2⟩

section
variable {w w' : World} {B : Nat} {S T : Nat → Prop} {sp : Nat} {J : Option Addr} {n cj : Nat} {tv : Value} {js : List Jb} {tk : List Int}
set_option maxRecDepth 20000 in
set_option maxHeartbeats 2000000 in
theorem list_any (h : StA w B S sp J n cj tv js tk) (hm : Sm js tk) (hn : n ≤ 1000) :
    Calls Try.prog 19 #[pp sp] w fun e w' => ∃ v, e = .returned v ∧ Own w' 3 1 v (listP js tk n).length ((listP js tk n).map nV) ∧ Below w.heap.size w w' ∧ ∀ k, v.ownBlock = some k → w.heap.size ≤ k := by
  obtain ⟨i0, hi0, hz0, hz1, hz2⟩ := info_parts info3
  have HH := Lib.hid h
  have HM := Lib.hid hm
  clear h hm
  unfold pp
  go_enter Try.func19, Try.ntmps19
  go_wp2_with fail
  go_loopw [3, 4] (fun v iv wr => ∃ i : Nat, i ≤ n ∧ iv = .int .i64 i ∧ Own wr 3 1 v (listP js tk i).length ((listP js tk i).map nV) ∧ (∀ k, v.ownBlock = some k → w.heap.size ≤ k) ∧ Below w.heap.size w wr) (fun _ iv _ => n - (intOf iv).toNat)
  case atStart => exact ⟨0, by omega, rfl, by simpa [listP] using Own.nil_ w 3 1, by simp [Value.ownBlock], Below.refl _ _⟩
  case round =>
    obtain ⟨i, hi, rfl, hv, hkv, hbw⟩ := hrel
    have c0 := (HH.out.below hbw).c0
    have hlen := listP_len js tk i
    by_cases hlt : i < n
    · have i1 : (i : Int) < (n : Int) := by omega
      have HR := Lib.hid (ready_any (HH.out.below hbw) HM.out i hlt)
      unfold pp at HR
      obtain ⟨A, c, rfl, -, -⟩ := hv.len_
      have HV := Lib.hid hv; have HK := Lib.hid hkv; have HB := Lib.hid hbw
      clear hv hkv hbw
      by_cases hr : readyP js tk i
      · rw [decide_eq_true hr] at HR
        have hs := listP_yes hr
        have HS := Lib.hid hs
        clear hr hs
        generalize listP js tk i = xs at *
        generalize hl : xs.length = l at *
        have HL := Lib.hid hl
        clear hl
        go_wp2_with (first
          | (go_at_call 25; refine HR.out.mono ?_; rintro e1 w1 ⟨rfl, hb1⟩; have HB1 := Lib.hid (below_trans HB.out hb1); have HV1 := Lib.hid (HV.out.below hb1 fun _ h => HV.out.lt h); clear hb1)
          | (at_builtin; refine wpList_append_mine _ rfl (.tmp 17) (.tmp 19) _ rfl 3 i0 _ 1 8 Try.underlying23 hi0 hz0 hz1 hz2 rfl (by omega) (.slice A l c) l (xs.map nV) rfl (by exact HV1.out.alloc _) _ 1 1 [_] rfl rfl (by exact news_push rfl rfl) (by simp [Value.oneCell']) (by omega) (by simp only [maxLen]; omega) (by omega) _ rfl ?_; intro g5 o5 c5 w5 hown5 hgrow5 hat5; have HO5 := Lib.hid hown5; have HB5 := Lib.hid (Below.grown (HB1.out.alloc HB1.out.size _) hgrow5 (by simp; have := HB1.out.size; omega) HK.out); have HK5 : Hid (w.heap.size ≤ g5) := (by show _ ≤ _; rcases hat5 with h | h; exact HK.out _ h; rw [h]; have := HB1.out.size; simp; omega); clear hown5 hgrow5 hat5))
        go_roundw
        case rel => exact ⟨i + 1, by omega, by go_num, by rw [HS.out, List.length_append, HL.out, List.map_append]; exact HO5.out, fun k hk => by simp [Value.ownBlock] at hk; rw [← hk]; exact HK5.out, HB5.out⟩
        case measure => simp [intOf]; omega
      · rw [decide_eq_false hr] at HR
        have hs := listP_no hr
        have HS := Lib.hid hs
        clear hr hs
        generalize listP js tk i = xs at *
        generalize hl : xs.length = l at *
        have HL := Lib.hid hl
        clear hl
        go_wp2_with (go_at_call 25; refine HR.out.mono ?_; rintro e1 w1 ⟨rfl, hb1⟩; have HB1 := Lib.hid (below_trans HB.out hb1); have HV1 := Lib.hid (HV.out.below hb1 fun _ h => HV.out.lt h); clear hb1)
        go_roundw
        case rel => exact ⟨i + 1, by omega, by go_num, by rw [HS.out, HL.out]; exact HV1.out, HK.out, HB1.out⟩
        case measure => simp [intOf]; omega
    · obtain rfl : i = n := by omega
      have HV := Lib.hid hv; have HK := Lib.hid hkv; have HB := Lib.hid hbw
      clear hv hkv hbw
      go_wp2_with fail
      go_ret
      exact ⟨_, rfl, HV.out, HB.out, HK.out⟩
end
end Go.Proofs.Ytamgngmbbbegpaa
