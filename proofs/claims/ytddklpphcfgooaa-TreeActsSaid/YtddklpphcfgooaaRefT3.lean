/-
  The contract of the function Cancel of the document's tree; the program's tree beside the document's ('TR'); no condition beyond those that each theorem states.
-/
import Derived.Test.YtddklpphcfgooaaRefT2
namespace Go.Proofs.Ytddklpphcfgooaa
open Go.RowKit Go.Rb

set_option maxHeartbeats 2000000 in
theorem rCancel_bad {S : Nat → Prop} {r : Nat} {s : TS} (i c : Int) (w : World) (hR : RefT w S r s) (hi : ¬ (thereB s i ∧ c ≠ 0)) :
    Calls Try.prog 16 #[pp r, .int .i64 i, .int .i64 c] w fun e w' => e = .returned (.tuple #[.int .i64 0, .int .i64 2]) ∧ w = w' := by
  have HC := Lib.hid (rIs_any i w hR)
  clear hR
  unfold pp at HC ⊢
  by_cases ht : thereB s i
  · rw [decide_eq_true ht] at HC
    obtain rfl : c = 0 := by
      by_cases h0 : c = 0
      · exact h0
      · exact absurd ⟨ht, h0⟩ hi
    clear hi ht
    go_enter Try.func16, Try.ntmps16
    go_wp2_with (go_at_call 22; refine HC.out.mono ?_; rintro e1 w1 ⟨rfl, rfl⟩)
    go_ret2
    exact ⟨rfl, rfl⟩
  · rw [decide_eq_false ht] at HC
    clear hi ht
    go_enter Try.func16, Try.ntmps16
    go_wp2_with (go_at_call 22; refine HC.out.mono ?_; rintro e1 w1 ⟨rfl, rfl⟩)
    go_ret2
    exact ⟨rfl, rfl⟩

theorem mk_zero {up ca : List Int} {n : Nat} {c : Int} : Mk (fun i => i < 0 ∧ Und up n i) c ca ca := ⟨rfl, fun _ _ h _ => absurd h.1 (by omega), fun _ _ => rfl, fun _ _ => rfl⟩
theorem mk_skip {up ca ca' : List Int} {n j : Nat} {c : Int} (h : Mk (fun i => i < j ∧ Und up n i) c ca ca') (hno : ¬ Und up n j ∨ ca.getD j 0 ≠ 0) : Mk (fun i => i < j + 1 ∧ Und up n i) c ca ca' := by
  refine ⟨h.len, fun i hi hx h0 => ?_, h.no, fun i hx => h.off i fun hh => hx ⟨by omega, hh.2⟩⟩
  by_cases hij : i = j
  · subst hij
    rcases hno with hn | hn
    · exact absurd hx.2 hn
    · exact absurd h0 hn
  · exact h.yes i hi ⟨by omega, hx.2⟩ h0
theorem mk_put {up ca ca' : List Int} {n j : Nat} {c : Int} (h : Mk (fun i => i < j ∧ Und up n i) c ca ca') (hj : j < ca.length) (hu : Und up n j) (hz : ca.getD j 0 = 0) : Mk (fun i => i < j + 1 ∧ Und up n i) c ca (ca'.set j c) := by
  have hl : j < ca'.length := by rw [h.len]; exact hj
  refine ⟨by rw [List.length_set]; exact h.len, fun i hi hx h0 => ?_, fun i h0 => ?_, fun i hx => ?_⟩
  · rw [getD_set hl]
    by_cases hij : i = j
    · rw [if_pos hij]
    · rw [if_neg hij]; exact h.yes i hi ⟨by omega, hx.2⟩ h0
  · rw [getD_set hl, if_neg (fun e => h0 (by rw [e]; exact hz))]; exact h.no i h0
  · rw [getD_set hl, if_neg (fun e => hx (by rw [e]; exact ⟨by omega, hu⟩))]; exact h.off i fun hh => hx ⟨by omega, hh.2⟩
theorem mk_fin {up ca ca' : List Int} {n : Nat} {c : Int} (h : Mk (fun i => i < up.length ∧ Und up n i) c ca ca') (hn : n < up.length) : Mk (Und up n) c ca ca' :=
  ⟨h.len, fun i hi hx => h.yes i hi ⟨hx.lt hn, hx⟩, h.no, fun i hx => h.off i fun hh => hx hh.2⟩

set_option maxRecDepth 20000 in
set_option maxHeartbeats 4000000 in
theorem rCancel_any {S : Nat → Prop} {r : Nat} {s : TS} (n : Nat) (c : Int) (w : World) (hR : RefT w S r s) (htr : Tr s) (hn : n < s.n) (hs : s.n ≤ 256) (hc : c ≠ 0) :
    Calls Try.prog 16 #[pp r, .int .i64 (n : Int), .int .i64 c] w fun e w' => ∃ (k : Nat) (ca' : List Int), e = .returned (.tuple #[.int .i64 (k : Int), .int .i64 0]) ∧ k + ca'.count 0 = s.ca.count 0 ∧ Mk (Und s.up n) c s.ca ca' ∧ Only S w w' ∧ RefT w' S r (s.wca ca') := by
  have HC := Lib.hid (rIs_any (n : Int) w hR)
  rw [decide_eq_true (show thereB s n from ⟨by omega, by omega⟩)] at HC
  obtain ⟨uv, cv, h⟩ := hR
  have hcl : s.ca.length = s.n := htr.cl
  obtain ⟨A, cap, rfl, -, -⟩ := h.uo.len_
  obtain ⟨g, off, cap1, hcv, -, -, sg⟩ := h.cat (i := n) (by omega)
  subst hcv
  have HH := Lib.hid h
  have HT := Lib.hid htr
  have hlu : s.up.length = s.n := rfl
  have hcnt : s.ca.count 0 ≤ 256 := Nat.le_trans List.count_le_length (by omega)
  have HSG : Hid (S g) := sg
  have HCL := Lib.hid hcl
  rw [hlu] at HH
  rw [hcl] at HH
  clear h htr hcl sg
  generalize hN : s.n = N at *
  have HN := Lib.hid hN
  have HLU := Lib.hid hlu
  clear hN hlu
  have hcb : (c == 0) = false := by simpa using hc
  unfold pp at HC ⊢
  go_enter Try.func16, Try.ntmps16
  go_wp2_with (go_at_call 22; refine HC.out.mono ?_; rintro e1 w1 ⟨rfl, rfl⟩)
  go_loopw [8, 9] (fun al kv wr => ∃ (j : Nat) (ca' : List Int) (cnt : Nat), j ≤ N ∧ kv = .int .i64 j ∧ al = .int .i64 (cnt : Int) ∧ cnt + ca'.count 0 = s.ca.count 0 ∧ Mk (fun i => i < j ∧ Und s.up n i) c s.ca ca' ∧ Only S w wr ∧ RefA wr S r (.slice A N cap) (.slice (some ⟨g, off, none⟩) N cap1) s.up ca') (fun _ kv _ => N - (intOf kv).toNat)
  case atStart => exact ⟨0, s.ca, 0, by omega, rfl, rfl, by omega, mk_zero, Only.refl _ _, HH.out⟩
  case round =>
    obtain ⟨j, ca', cnt, hj, rfl, rfl, hcn, hmk, hon, hrep⟩ := hrel
    have c0 := hrep.c0
    by_cases hlt : j < N
    · have i5 : (j : Int) < (N : Int) := by omega
      have hjca : j < ca'.length := by rw [hmk.len, HCL.out]; exact hlt
      have hUn := rUnder_any (s := s.wca ca') j (n : Int) wr ⟨_, _, hrep⟩ HT.out.sh (by show j < s.n; rw [HN.out]; exact hlt)
      have hsb : j ≠ n → (SB (s.wca ca') (n : Int) j ↔ Und s.up n j) := fun hne => sb_und (s := s.wca ca') HT.out.sh (by show j < s.n; rw [HN.out]; exact hlt) hne
      have hcj : ca'.getD j 0 = s.ca.getD j 0 := hmk.off j (fun hh => by omega)
      obtain ⟨g', off', cap', hv, cat, hfr, -⟩ := hrep.cat hjca
      have hlc : ca'.length = N := by rw [hmk.len, HCL.out]
      rw [hlc] at hv
      simp only [Value.slice.injEq, Option.some.injEq, Addr.mk.injEq, true_and, and_true] at hv
      obtain ⟨⟨rfl, rfl⟩, rfl⟩ := hv
      have c1 := hrep.c1
      rw [hcj] at cat
      have HREP := Lib.hid hrep; have HON := Lib.hid hon; have HMK := Lib.hid hmk
      have hcle : cnt ≤ 256 := by omega
      unfold pp at hUn
      by_cases hu : Und s.up n j
      · by_cases hz : s.ca.getD j 0 = 0
        · rw [hz] at cat
          have HP : Hid (1 + (ca'.set j c).count 0 = ca'.count 0) := count_set0 hjca (by rw [hcj, hz]) hc
          have HM2 := Lib.hid (mk_put hmk (by rw [HCL.out]; exact hlt) hu hz)
          have hr2 := RefA.setCause (w := wr) (by rw [hlc]; exact hrep) j hjca c
          rw [hlc] at hr2
          have HR2 := Lib.hid hr2
          clear hrep hon hmk hr2 hcj hlc hjca
          by_cases hjn : j = n
          · clear hUn hsb
            have hjb : ((j : Int) == (n : Int)) = true := by simp [hjn]
            clear hjn
            go_wp2
            go_roundw
            case rel => exact ⟨j + 1, ca'.set j c, cnt + 1, by omega, by go_num, by go_num, by have := HP.out; omega, HM2.out, HON.out.setCell (p := ⟨g, off + j, none⟩) (fun _ => HSG.out) _, HR2.out⟩
            case measure => simp [intOf]; omega
          · have hjb : ((j : Int) == (n : Int)) = false := by rw [beq_eq_false_iff_ne]; omega
            rw [decide_eq_true ((hsb hjn).2 hu)] at hUn
            have HUn := Lib.hid hUn
            clear hUn hsb hjn
            go_wp2_with (go_at_call 23; refine HUn.out.mono ?_; rintro e1 w1 ⟨rfl, rfl⟩)
            go_roundw
            case rel => exact ⟨j + 1, ca'.set j c, cnt + 1, by omega, by go_num, by go_num, by have := HP.out; omega, HM2.out, HON.out.setCell (p := ⟨g, off + j, none⟩) (fun _ => HSG.out) _, HR2.out⟩
            case measure => simp [intOf]; omega
        · have HM2 := Lib.hid (mk_skip hmk (.inr hz))
          have hzb : (s.ca.getD j 0 == 0) = false := by simpa using hz
          clear hrep hon hmk hcj hlc hjca
          generalize s.ca.getD j 0 = z at *
          by_cases hjn : j = n
          · clear hUn hsb
            have hjb : ((j : Int) == (n : Int)) = true := by simp [hjn]
            clear hjn
            go_wp2
            go_roundw
            case rel => exact ⟨j + 1, ca', cnt, by omega, by go_num, rfl, by omega, HM2.out, HON.out, HREP.out⟩
            case measure => simp [intOf]; omega
          · have hjb : ((j : Int) == (n : Int)) = false := by rw [beq_eq_false_iff_ne]; omega
            rw [decide_eq_true ((hsb hjn).2 hu)] at hUn
            have HUn := Lib.hid hUn
            clear hUn hsb hjn
            go_wp2_with (go_at_call 23; refine HUn.out.mono ?_; rintro e1 w1 ⟨rfl, rfl⟩)
            go_roundw
            case rel => exact ⟨j + 1, ca', cnt, by omega, by go_num, rfl, by omega, HM2.out, HON.out, HREP.out⟩
            case measure => simp [intOf]; omega
      · have hjn : j ≠ n := fun e => hu (by rw [e]; exact .here)
        have HM2 := Lib.hid (mk_skip hmk (.inl hu))
        have hjb : ((j : Int) == (n : Int)) = false := by rw [beq_eq_false_iff_ne]; omega
        rw [decide_eq_false (fun h => hu ((hsb hjn).1 h))] at hUn
        have HUn := Lib.hid hUn
        clear hrep hon hmk hcj hlc hjca hUn hsb hjn hu
        go_wp2_with (go_at_call 23; refine HUn.out.mono ?_; rintro e1 w1 ⟨rfl, rfl⟩)
        go_roundw
        case rel => exact ⟨j + 1, ca', cnt, by omega, by go_num, rfl, by omega, HM2.out, HON.out, HREP.out⟩
        case measure => simp [intOf]; omega
    · obtain rfl : j = N := by omega
      have HREP := Lib.hid hrep; have HON := Lib.hid hon; have HMK := Lib.hid hmk; have HCN := Lib.hid hcn
      clear hrep hon hmk hcn
      go_wp2
      go_ret2
      exact ⟨cnt, ca', rfl, HCN.out, mk_fin (by rw [HLU.out]; exact HMK.out) (by rw [HLU.out]; exact hn), HON.out, _, _, HREP.out⟩
end Go.Proofs.Ytddklpphcfgooaa
