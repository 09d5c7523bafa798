/-
  The loom, how it lies in memory, and the contract of its Ready; no condition beyond those that each theorem states.
-/
import Derived.Test.YtamgngmbbbegpaaLoom4
namespace Go.Proofs.Ytamgngmbbbegpaa
open Go.RowKit Go.Rb
attribute [local irreducible] Go.wpQuiet

theorem meth_over (W : World) (x : Nat) : (method 179 51 (.pointer (some ⟨x, 0, none⟩)) "Over").run Try.prog W = .ok (45, .pointer (some ⟨x, 0, none⟩)) W := by kernel_rfl
theorem meth_ready (W : World) (x : Nat) : (method 179 51 (.pointer (some ⟨x, 0, none⟩)) "Ready").run Try.prog W = .ok (46, .pointer (some ⟨x, 0, none⟩)) W := by kernel_rfl
theorem meth_step (W : World) (x : Nat) : (method 179 51 (.pointer (some ⟨x, 0, none⟩)) "Step").run Try.prog W = .ok (47, .pointer (some ⟨x, 0, none⟩)) W := by kernel_rfl
theorem meth_name (W : World) (x : Nat) : (method 179 51 (.pointer (some ⟨x, 0, none⟩)) "Name").run Try.prog W = .ok (44, .pointer (some ⟨x, 0, none⟩)) W := by kernel_rfl
def iF (t : Nat) : Value := .iface 51 (pp t)
def ifs (tb : Nat → Nat) (m : Nat) : List Value := (List.range m).map fun i => iF (tb i)
theorem ifs_len (tb : Nat → Nat) (m : Nat) : (ifs tb m).length = m := by simp [ifs]
theorem ifs_get (tb : Nat → Nat) {m i : Nat} (h : i < m) : (ifs tb m)[i]? = some (iF (tb i)) := by simp [ifs, h]
theorem ifs_succ (tb : Nat → Nat) (m : Nat) : ifs tb (m + 1) = ifs tb m ++ [iF (tb m)] := by simp [ifs, List.range_succ]

/-- The loom at lp, with the first m of the tasks of the state at sp. -/
structure LmA (w : World) (B : Nat) (S L : Nat → Prop) (lp sp : Nat) (J : Option Addr) (n cj : Nat) (tv lv tnv : Value) (tb : Nat → Nat) (m : Nat) (js : List Jb) (tk : List Int) (tn : List Nat) : Prop where
  sa : StA w B S sp J n cj tv js tk
  lb : Blk w lp 56 #[lv, tnv]
  lo : Own w 58 1 lv m (ifs tb m)
  bx : ∀ i, i < m → Blk w (tb i) 53 #[pp sp, nV i]
  mn : m ≤ n
  tu : Own w 3 1 tnv tn.length (tn.map nV)
  Ll : L lp
  Lv : ∀ k, lv.ownBlock = some k → L k
  Lt : ∀ k, tnv.ownBlock = some k → L k
  Lb : ∀ i, i < m → L (tb i)
  lt : ∀ k, L k → k < w.heap.size
  lB : ∀ k, L k → B ≤ k
  dj : ∀ k, L k → ¬ S k
section
variable {w w' : World} {B : Nat} {S L T : Nat → Prop} {lp sp : Nat} {J : Option Addr} {n cj : Nat} {tv lv tnv : Value} {tb : Nat → Nat} {m : Nat} {js : List Jb} {tk : List Int} {tn : List Nat}
theorem LmA.c0 (h : LmA w B S L lp sp J n cj tv lv tnv tb m js tk tn) : w.cell? ⟨lp, 0, none⟩ = some lv := by rw [h.lb.cell]; rfl
theorem LmA.c1 (h : LmA w B S L lp sp J n cj tv lv tnv tb m js tk tn) : w.cell? ⟨lp, 1, none⟩ = some tnv := by rw [h.lb.cell]; rfl
theorem LmA.frame (h : LmA w B S L lp sp J n cj tv lv tnv tb m js tk tn) (hb : Only T w w') (hS : ∀ k, S k → ¬ T k) (hL : ∀ k, L k → ¬ T k) (hT : ∀ k, k < B → ¬ T k) : LmA w' B S L lp sp J n cj tv lv tnv tb m js tk tn :=
  ⟨h.sa.frame hb hS hT, h.lb.only hb (hL _ h.Ll), h.lo.only hb fun k hk => hL _ (h.Lv k hk), fun i hi => (h.bx i hi).only hb (hL _ (h.Lb i hi)), h.mn, h.tu.only hb fun k hk => hL _ (h.Lt k hk), h.Ll, h.Lv, h.Lt, h.Lb, fun k hk => Nat.lt_of_lt_of_le (h.lt k hk) hb.size, h.lB, h.dj⟩
theorem LmA.below (h : LmA w B S L lp sp J n cj tv lv tnv tb m js tk tn) (hb : Below w.heap.size w w') : LmA w' B S L lp sp J n cj tv lv tnv tb m js tk tn :=
  h.frame (Only.of_below hb) (fun k hk hh => by have := h.sa.lt k hk; omega) (fun k hk hh => by have := h.lt k hk; omega) (fun k hk hh => by have := h.sa.hB; omega)
theorem LmA.iat (h : LmA w B S L lp sp J n cj tv lv tnv tb m js tk tn) {i : Nat} (hi : i < m) : ∃ g off cap, lv = .slice (some ⟨g, off, none⟩) m cap ∧ w.cell? ⟨g, off + i, none⟩ = some (iF (tb i)) := by
  obtain ⟨g, off, cap, hv, _, _, _, hc, hf⟩ := h.lo.form (by omega)
  exact ⟨g, off, cap, hv, by rw [hc i (by omega), ifs_get tb hi]⟩

set_option maxRecDepth 20000 in
set_option maxHeartbeats 2000000 in
theorem lReady_any (h : LmA w B S L lp sp J n cj tv lv tnv tb n js tk tn) (hm : Sm js tk) (hn : n ≤ 1000) :
    Calls Try.prog 10 #[pp lp] w fun e w' => ∃ v, e = .returned v ∧ Own w' 3 1 v (listP js tk n).length ((listP js tk n).map nV) ∧ Below w.heap.size w w' ∧ ∀ k, v.ownBlock = some k → w.heap.size ≤ k := by
  obtain ⟨i0, hi0, hz0, hz1, hz2⟩ := info_parts info3
  have HH := Lib.hid h
  have HM := Lib.hid hm
  have c0 := h.c0
  obtain ⟨Al, cl, rfl, -, -⟩ := h.lo.len_
  clear h hm
  unfold pp
  go_enter Try.func10, Try.ntmps10
  go_wp2_with fail
  go_loopw [3, 11] (fun v iv wr => ∃ i : Nat, i ≤ n ∧ iv = .int .i64 i ∧ Own wr 3 1 v (listP js tk i).length ((listP js tk i).map nV) ∧ (∀ k, v.ownBlock = some k → w.heap.size ≤ k) ∧ Below w.heap.size w wr) (fun _ iv _ => n - (intOf iv).toNat)
  case atStart => exact ⟨0, by omega, rfl, by simpa [listP] using Own.nil_ w 3 1, by simp [Value.ownBlock], Below.refl _ _⟩
  case round =>
    obtain ⟨i, hi, rfl, hv, hkv, hbw⟩ := hrel
    have hlen := listP_len js tk i
    by_cases hlt : i < n
    · have i1 : (i : Int) < (n : Int) := by omega
      have hh := HH.out.below hbw
      obtain ⟨gl, ol, cl', e, k0⟩ := hh.iat hlt
      simp only [Value.slice.injEq] at e
      obtain ⟨rfl, -, rfl⟩ := e
      have HOV := Lib.hid (tOver_any hh.sa i hlt (hh.bx i hlt))
      have HB := Lib.hid hbw
      have HRD : Hid (∀ W, Below w.heap.size w W → Calls Try.prog 46 #[pp (tb i)] W fun e w' => e = .returned (.bool (decide (readyP js tk i))) ∧ Below W.heap.size W w') := fun W hW => tReady_any (HH.out.below hW).sa HM.out i hlt ((HH.out.below hW).bx i hlt)
      obtain ⟨A, c, rfl, -, -⟩ := hv.len_
      have HV := Lib.hid hv; have HK := Lib.hid hkv
      clear hv hkv hbw hh
      unfold iF at k0
      generalize tb i = x at *
      unfold pp at k0 HOV HRD
      have hmO := meth_over
      have hmR := meth_ready
      by_cases hr : readyP js tk i
      · have ho : ¬ overP js tk i := hr.1
        rw [decide_eq_false ho] at HOV
        rw [decide_eq_true hr] at HRD
        have hs := listP_yes hr
        have HS := Lib.hid hs
        clear hr ho hs
        generalize listP js tk i = xs at *
        generalize hl : xs.length = l at *
        have HL := Lib.hid hl
        clear hl
        go_wp2_with (first
          | (go_at_call 45; refine HOV.out.mono ?_; rintro e1 w2 ⟨rfl, q, rfl⟩)
          | (go_at_call 46; refine (HRD.out _ (below_drewN HB.out q)).mono ?_; rintro e1 w1 ⟨rfl, hb1⟩; have HB1 := Lib.hid (below_trans (below_drewN HB.out q) hb1); have HV1 := Lib.hid ((HV.out.drewN q).below hb1 fun _ h => (HV.out.drewN q).lt h); clear hb1)
          | (at_builtin; refine wpList_append_mine _ rfl (.tmp 23) (.tmp 25) _ rfl 3 i0 _ 1 8 Try.underlying23 hi0 hz0 hz1 hz2 rfl (by omega) (.slice A l c) l (xs.map nV) rfl (by exact HV1.out.alloc _) _ 1 1 [_] rfl rfl (by exact news_push rfl rfl) (by simp [Value.oneCell']) (by omega) (by simp only [maxLen]; omega) (by omega) _ rfl ?_; intro g5 o5 c5 w5 hown5 hgrow5 hat5; have HO5 := Lib.hid hown5; have HB5 := Lib.hid (Below.grown (HB1.out.alloc HB1.out.size _) hgrow5 (by simp; have := HB1.out.size; omega) HK.out); have HK5 : Hid (w.heap.size ≤ g5) := (by show _ ≤ _; rcases hat5 with h | h; exact HK.out _ h; rw [h]; have := HB1.out.size; simp; omega); clear hown5 hgrow5 hat5))
        go_roundw
        case rel => exact ⟨i + 1, by omega, by go_num, by rw [HS.out, List.length_append, HL.out, List.map_append]; exact HO5.out, fun k hk => by simp [Value.ownBlock] at hk; rw [← hk]; exact HK5.out, HB5.out⟩
        case measure => simp [intOf]; omega
      · rw [decide_eq_false hr] at HRD
        have hs := listP_no hr
        have HS := Lib.hid hs
        clear hr hs
        by_cases ho : overP js tk i
        · rw [decide_eq_true ho] at HOV
          clear ho
          generalize listP js tk i = xs at *
          generalize hl : xs.length = l at *
          have HL := Lib.hid hl
          clear hl
          go_wp2_with (go_at_call 45; refine HOV.out.mono ?_; rintro e1 w2 ⟨rfl, q, rfl⟩)
          go_roundw
          case rel => exact ⟨i + 1, by omega, by go_num, by rw [HS.out, HL.out]; exact HV.out.drewN q, HK.out, below_drewN HB.out q⟩
          case measure => simp [intOf]; omega
        · rw [decide_eq_false ho] at HOV
          clear ho
          generalize listP js tk i = xs at *
          generalize hl : xs.length = l at *
          have HL := Lib.hid hl
          clear hl
          go_wp2_with (first
            | (go_at_call 45; refine HOV.out.mono ?_; rintro e1 w2 ⟨rfl, q, rfl⟩)
            | (go_at_call 46; refine (HRD.out _ (below_drewN HB.out q)).mono ?_; rintro e1 w1 ⟨rfl, hb1⟩; have HB1 := Lib.hid (below_trans (below_drewN HB.out q) hb1); have HV1 := Lib.hid ((HV.out.drewN q).below hb1 fun _ h => (HV.out.drewN q).lt h); clear hb1))
          go_roundw
          case rel => exact ⟨i + 1, by omega, by go_num, by rw [HS.out, HL.out]; exact HV1.out, HK.out, HB1.out⟩
          case measure => simp [intOf]; omega
    · obtain rfl : i = n := by omega
      have HV := Lib.hid hv; have HK := Lib.hid hkv; have HB := Lib.hid hbw
      clear hv hkv hbw
      go_wp2_with fail
      go_ret
      exact ⟨_, rfl, HV.out, HB.out, HK.out⟩
end
end Go.Proofs.Ytamgngmbbbegpaa
