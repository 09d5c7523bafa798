/-
  The walk of reedbedlaw15.TreeStays: it returns true; no condition beyond those that each theorem states.
-/
import Derived.Test.YtddklpphcfgooaaActsT
namespace Go.Proofs.Ytddklpphcfgooaa
open Go.RowKit Go.Rb

theorem infoE : (Try.prog.info? 25).map (fun i => (i.zero, i.size, i.bytes)) = some (some (.int .i64 0), 1, 8) := by kernel_rfl
theorem TI.pos {B t : Nat} {T : Nat → Prop} {w : World} {s : TS} (h : TI B T w t s) : 1 ≤ s.n := h.tr.sh.pos
theorem mod_up (n : Int) (M : Nat) (h1 : 1 ≤ M) (h2 : M ≤ 1000) : ∃ k : Nat, k < M ∧ (wrap64 (n.tmod (M : Int) + (M : Int))).tmod (M : Int) = (k : Int) := by
  have a1 := Int.tmod_lt_of_pos n (show (0 : Int) < (M : Int) by omega)
  have a2 := Int.lt_tmod_of_pos n (show (0 : Int) < (M : Int) by omega)
  have hw : wrap64 (n.tmod (M : Int) + (M : Int)) = n.tmod (M : Int) + (M : Int) := by have := IntWalk.i64_in (n.tmod (M : Int) + (M : Int)) (by omega); rw [IntKind.wrap_i64] at this; first | exact this | (unfold wrap64; exact this) | (unfold wrap64; omega)
  rw [hw, Int.tmod_eq_emod_of_nonneg (by omega)]
  have b1 := Int.emod_nonneg (n.tmod (M : Int) + (M : Int)) (show (M : Int) ≠ 0 by omega)
  have b2 := Int.emod_lt_of_pos (n.tmod (M : Int) + (M : Int)) (show (0 : Int) < (M : Int) by omega)
  exact ⟨_, by omega, (Int.toNat_of_nonneg b1).symm⟩
open Classical in
theorem stays_at {s : TS} {k q : Nat} {cz : Int} {ca' : List Int} (h : Tr s) (hm : Mk (Und s.up k) cz s.ca ca') (hq : q < s.n) :
    ((q = k ∨ q ∈ belowO (s.wca ca') (k : Int)) ∧ s.ca.getD q 0 = 0 ∧ ca'.getD q 0 = cz) ∨ ((q = k ∨ q ∈ belowO (s.wca ca') (k : Int)) ∧ s.ca.getD q 0 ≠ 0 ∧ ca'.getD q 0 = s.ca.getD q 0) ∨ (¬ (q = k ∨ q ∈ belowO (s.wca ca') (k : Int)) ∧ ca'.getD q 0 = s.ca.getD q 0) := by
  have hi : (q = k ∨ q ∈ belowO (s.wca ca') (k : Int)) ↔ Und s.up k q := by
    have e : q ∈ belowO (s.wca ca') (k : Int) ↔ 0 < q ∧ Und s.up k (upN s.up q) := by
      unfold belowO
      constructor
      · intro hh
        exact (of_decide_eq_true (List.mem_filter.1 hh).2).2
      · intro hh
        exact List.mem_filter.2 ⟨List.mem_range.2 hq, decide_eq_true ⟨by omega, hh⟩⟩
    rw [e]
    exact (sub_iff h.sh hq).symm
  have hl : q < s.ca.length := by rw [h.cl]; exact hq
  by_cases hu : Und s.up k q
  · by_cases hz : s.ca.getD q 0 = 0
    · exact .inl ⟨hi.2 hu, hz, hm.yes q hl hu hz⟩
    · exact .inr (.inl ⟨hi.2 hu, hz, hm.no q hz⟩)
  · exact .inr (.inr ⟨fun hh => hu (hi.1 hh), hm.off q hu⟩)
theorem nat_eqb (q k : Nat) : ((q : Int) == (k : Int)) = decide (q = k) := by
  by_cases h : q = k
  · subst h; simp
  · rw [decide_eq_false h, beq_eq_false_iff_ne]; omega
theorem cause_at {s : TS} {q : Nat} (hq : q < s.n) : causeO s (q : Int) = s.ca.getD q 0 := by
  unfold causeO
  rw [if_pos ⟨by omega, by omega⟩, Int.toNat_natCast]
theorem stays_par {s : TS} {q : Nat} (h : Tr s) (hq : q < s.n) : parentO s (q : Int) = -1 ∨ ∃ p : Nat, parentO s (q : Int) = (p : Int) ∧ (causeO s (p : Int) = 0 ∨ (causeO s (p : Int) ≠ 0 ∧ s.ca.getD q 0 ≠ 0)) := by
  rw [parentO_at hq]
  rcases Nat.eq_zero_or_pos q with rfl | h0
  · exact .inl h.sh.u0
  · obtain ⟨e, hl⟩ := h.sh.uk q h0 hq
    refine .inr ⟨_, e, ?_⟩
    have hp : upN s.up q < s.n := Nat.lt_trans hl hq
    rw [cause_at hp]
    by_cases hz : s.ca.getD (upN s.up q) 0 = 0
    · exact .inl hz
    · exact .inr ⟨hz, h.cz q h0 hq hz⟩
theorem TI.past {B t : Nat} {w w' : World} {s : TS} (h : TI B NoT w t s) (hb : Below w.heap.size w w') : TI B (fun q => w.heap.size ≤ q ∧ q < w'.heap.size) w' t s :=
  h.frame (U := fun k => w.heap.size ≤ k) (Only.of_below hb) (fun _ hk => .inr hk) (fun _ hk => ⟨.inr hk.1, hk.2⟩)

set_option maxRecDepth 20000 in
set_option maxHeartbeats 8000000 in
theorem stays_main (acts : List ActD) (A : Option Addr) (m c : Nat) (n cz : Int) (w : World) (hr : ActsAt w w.heap.size A m acts) (hm : m ≤ 60) (hc : cz ≠ 0) :
    Calls Try.prog 6 #[.slice A m c, .int .i64 n, .int .i64 cz] w fun e w' => e = .returned (.bool true) ∧ Below w.heap.size w w' := by
  obtain ⟨i0, hi0, hz0, hz1, hz2⟩ := info_parts infoE
  have hA : Hid (∀ w, Calls Try.prog 7 #[] w fun e w' => e = .returned (.bool true) ∧ Below w.heap.size w w') := awake_any
  have hN : Hid (∀ W, Below w.heap.size w W → Calls Try.prog 8 #[] W fun e w' => ∃ t, e = .returned (.pointer (some ⟨t, 0, none⟩)) ∧ Below W.heap.size W w' ∧ TI w.heap.size NoT w' t rootS) :=
    fun W hW => new_in (B := w.heap.size) W NoT (fun _ h => h.elim) hW.size
  have HR := Lib.hid hr
  clear hr
  have i1 : ¬ (60 : Int) < (m : Int) := by omega
  have hcb : (cz == 0) = false := by simpa using hc
  go_enter Try.func6, Try.ntmps6
  go_wp2_with (first
    | (go_at_call 7; refine (hA.out _).mono ?_; rintro e1 w1 ⟨rfl, hb1⟩; have HB1 := Lib.hid hb1; clear hb1)
    | (go_at_call 8; refine (hN.out _ HB1.out).mono ?_; rintro e2 w2 ⟨t, rfl, hb2, hi2⟩; have HB2 := Lib.hid (below_trans HB1.out hb2); have HI2 := Lib.hid hi2; clear hb2 hi2))
  go_loopw [8] (fun i wr => ∃ (j : Nat) (s : TS), j ≤ m ∧ i = .int .i64 j ∧ s.n ≤ j + 1 ∧ Below w.heap.size w wr ∧ TI w.heap.size NoT wr t s) (fun i _ => m - (intOf i).toNat)
  case atStart => exact ⟨0, rootS, by omega, rfl, by decide, HB2.out, HI2.out⟩
  case round =>
    obtain ⟨j, s, hj, rfl, hn, hbw, hin⟩ := hrel
    by_cases hlt : j < m
    · have i5 : (j : Int) < (m : Int) := by omega
      obtain ⟨g, o, x, rfl, hxj, hat⟩ := HR.out.2 j hlt
      obtain ⟨y0, y1, y2, -⟩ := hat.below hbw
      clear hat hxj
      obtain ⟨xk, xi, xc⟩ := x
      simp only at y0 y1 y2
      have HB := Lib.hid hbw; have HI := Lib.hid hin
      clear hbw hin
      by_cases hk : xk = 0
      · subst hk
        have hAdd := add_either HI.out xi (by omega)
        unfold pp at hAdd
        have HAdd := Lib.hid hAdd
        clear hAdd
        go_wp2_with (go_at_call 10; refine HAdd.out.mono ?_; rintro e6 w6 ⟨x6, y6, s6, rfl, hn6, hd6⟩; have HB6 := Lib.hid (HB.out.trans (hd6.below HI.out.1)); have HI6 := Lib.hid hd6.1; clear hd6)
        go_roundw
        case rel => exact ⟨j + 1, s6, by omega, by go_num, by omega, HB6.out, HI6.out⟩
        case measure => simp [intOf]; omega
      · have hkb : (xk == 0) = false := by simpa using hk
        have HID : Hid (TI w.heap.size NoT wr.drew t s) := HI.out.drewN 1
        go_wp2
        refine region_objs (by kernel_rfl) (fun _ _ => True)
          [.val (.pointer (some ⟨t, 0, none⟩)),
           .val (.slice (some ⟨g, o, none⟩) m c),
           .val (.int .i64 (j : Int)),
           .val (.pointer (some ⟨g, o + j * 3, none⟩)),
           .val (.pointer (some ⟨g, o + j * 3 + 1, none⟩)),
           .val (.int .i64 xi),
           .val (.slice (some ⟨g, o, none⟩) m c),
           .val (.int .i64 (j : Int)),
           .val (.pointer (some ⟨g, o + j * 3, none⟩)),
           .val (.pointer (some ⟨g, o + j * 3 + 2, none⟩)),
           .val (.int .i64 xc),
           .any]
          (⟨11, fun W => W = wr.drew, fun W => ∃ s', s'.n = s.n ∧ TDid w.heap.size NoT wr.drew t s' W⟩) (⟨11, fun _ => True, fun _ => True⟩) (fun _ => trivial) (fun _ _ _ _ _ => trivial) (by kernel_rfl) (rfl) (trivial) ⟨Nat.le_of_ble_eq_true rfl, Nat.le_of_ble_eq_true rfl⟩ ?_ ?_
        · refine ⟨?_, ?_, ?_, ?_, ?_, ?_, ?_, ?_, ?_, ?_, ?_, ?_, trivial⟩
          · intro ra RW hR hsA hsB hk hd K hK
            have SA := Lib.hid hsA
            have SB := Lib.hid hsB
            clear hsA hsB
            have hw : RW = wr.drew := SA.out.early (by kernel_rfl)
            subst hw
            obtain ⟨e7, g7⟩ := hk 7 (.pointer (some ⟨t, 0, none⟩)) (by kernel_rfl) rfl
            clear hk hd
            have HR := Lib.hid hR
            clear hR
            go_simp
            exact hK _ _ (trivial) rfl (SA.out.same (Nat.ne_of_beq_eq_false rfl)) (SB.out.same (Nat.ne_of_beq_eq_false rfl))
          · intro ra RW hR hsA hsB hk hd K hK
            have SA := Lib.hid hsA
            have SB := Lib.hid hsB
            clear hsA hsB
            have hw : RW = wr.drew := SA.out.early (by kernel_rfl)
            subst hw
            obtain ⟨e0, g0⟩ := hk 0 (.slice (some ⟨g, o, none⟩) m c) (by kernel_rfl) rfl
            clear hk hd
            have HR := Lib.hid hR
            clear hR
            go_simp
            exact hK _ _ (trivial) rfl (SA.out.same (Nat.ne_of_beq_eq_false rfl)) (SB.out.same (Nat.ne_of_beq_eq_false rfl))
          · intro ra RW hR hsA hsB hk hd K hK
            have SA := Lib.hid hsA
            have SB := Lib.hid hsB
            clear hsA hsB
            have hw : RW = wr.drew := SA.out.early (by kernel_rfl)
            subst hw
            obtain ⟨e8, g8⟩ := hk 8 (.int .i64 (j : Int)) (by kernel_rfl) rfl
            clear hk hd
            have HR := Lib.hid hR
            clear hR
            go_simp
            exact hK _ _ (trivial) rfl (SA.out.same (Nat.ne_of_beq_eq_false rfl)) (SB.out.same (Nat.ne_of_beq_eq_false rfl))
          · intro ra RW hR hsA hsB hk hd K hK
            have SA := Lib.hid hsA
            have SB := Lib.hid hsB
            clear hsA hsB
            have hw : RW = wr.drew := SA.out.early (by kernel_rfl)
            subst hw
            obtain ⟨v50, e50, g50, f50⟩ := hd 1 50 (by kernel_rfl) rfl
            have f50 : v50 = .slice (some ⟨g, o, none⟩) m c := f50
            subst f50
            obtain ⟨v51, e51, g51, f51⟩ := hd 2 51 (by kernel_rfl) rfl
            have f51 : v51 = .int .i64 (j : Int) := f51
            subst f51
            clear hk hd
            have HR := Lib.hid hR
            clear hR
            go_simp
            exact hK _ _ (trivial) rfl (SA.out.same (Nat.ne_of_beq_eq_false rfl)) (SB.out.same (Nat.ne_of_beq_eq_false rfl))
          · intro ra RW hR hsA hsB hk hd K hK
            have SA := Lib.hid hsA
            have SB := Lib.hid hsB
            clear hsA hsB
            have hw : RW = wr.drew := SA.out.early (by kernel_rfl)
            subst hw
            obtain ⟨v52, e52, g52, f52⟩ := hd 3 52 (by kernel_rfl) rfl
            have f52 : v52 = .pointer (some ⟨g, o + j * 3, none⟩) := f52
            subst f52
            clear hk hd
            have HR := Lib.hid hR
            clear hR
            go_simp
            exact hK _ _ (trivial) rfl (SA.out.same (Nat.ne_of_beq_eq_false rfl)) (SB.out.same (Nat.ne_of_beq_eq_false rfl))
          · intro ra RW hR hsA hsB hk hd K hK
            have SA := Lib.hid hsA
            have SB := Lib.hid hsB
            clear hsA hsB
            have hw : RW = wr.drew := SA.out.early (by kernel_rfl)
            subst hw
            obtain ⟨v53, e53, g53, f53⟩ := hd 4 53 (by kernel_rfl) rfl
            have f53 : v53 = .pointer (some ⟨g, o + j * 3 + 1, none⟩) := f53
            subst f53
            clear hk hd
            have HR := Lib.hid hR
            clear hR
            go_simp
            exact hK _ _ (trivial) rfl (SA.out.same (Nat.ne_of_beq_eq_false rfl)) (SB.out.same (Nat.ne_of_beq_eq_false rfl))
          · intro ra RW hR hsA hsB hk hd K hK
            have SA := Lib.hid hsA
            have SB := Lib.hid hsB
            clear hsA hsB
            have hw : RW = wr.drew := SA.out.early (by kernel_rfl)
            subst hw
            obtain ⟨e0, g0⟩ := hk 0 (.slice (some ⟨g, o, none⟩) m c) (by kernel_rfl) rfl
            clear hk hd
            have HR := Lib.hid hR
            clear hR
            go_simp
            exact hK _ _ (trivial) rfl (SA.out.same (Nat.ne_of_beq_eq_false rfl)) (SB.out.same (Nat.ne_of_beq_eq_false rfl))
          · intro ra RW hR hsA hsB hk hd K hK
            have SA := Lib.hid hsA
            have SB := Lib.hid hsB
            clear hsA hsB
            have hw : RW = wr.drew := SA.out.early (by kernel_rfl)
            subst hw
            obtain ⟨e8, g8⟩ := hk 8 (.int .i64 (j : Int)) (by kernel_rfl) rfl
            clear hk hd
            have HR := Lib.hid hR
            clear hR
            go_simp
            exact hK _ _ (trivial) rfl (SA.out.same (Nat.ne_of_beq_eq_false rfl)) (SB.out.same (Nat.ne_of_beq_eq_false rfl))
          · intro ra RW hR hsA hsB hk hd K hK
            have SA := Lib.hid hsA
            have SB := Lib.hid hsB
            clear hsA hsB
            have hw : RW = wr.drew := SA.out.early (by kernel_rfl)
            subst hw
            obtain ⟨v55, e55, g55, f55⟩ := hd 6 55 (by kernel_rfl) rfl
            have f55 : v55 = .slice (some ⟨g, o, none⟩) m c := f55
            subst f55
            obtain ⟨v56, e56, g56, f56⟩ := hd 7 56 (by kernel_rfl) rfl
            have f56 : v56 = .int .i64 (j : Int) := f56
            subst f56
            clear hk hd
            have HR := Lib.hid hR
            clear hR
            go_simp
            exact hK _ _ (trivial) rfl (SA.out.same (Nat.ne_of_beq_eq_false rfl)) (SB.out.same (Nat.ne_of_beq_eq_false rfl))
          · intro ra RW hR hsA hsB hk hd K hK
            have SA := Lib.hid hsA
            have SB := Lib.hid hsB
            clear hsA hsB
            have hw : RW = wr.drew := SA.out.early (by kernel_rfl)
            subst hw
            obtain ⟨v57, e57, g57, f57⟩ := hd 8 57 (by kernel_rfl) rfl
            have f57 : v57 = .pointer (some ⟨g, o + j * 3, none⟩) := f57
            subst f57
            clear hk hd
            have HR := Lib.hid hR
            clear hR
            go_simp
            exact hK _ _ (trivial) rfl (SA.out.same (Nat.ne_of_beq_eq_false rfl)) (SB.out.same (Nat.ne_of_beq_eq_false rfl))
          · intro ra RW hR hsA hsB hk hd K hK
            have SA := Lib.hid hsA
            have SB := Lib.hid hsB
            clear hsA hsB
            have hw : RW = wr.drew := SA.out.early (by kernel_rfl)
            subst hw
            obtain ⟨v58, e58, g58, f58⟩ := hd 9 58 (by kernel_rfl) rfl
            have f58 : v58 = .pointer (some ⟨g, o + j * 3 + 2, none⟩) := f58
            subst f58
            clear hk hd
            have HR := Lib.hid hR
            clear hR
            go_simp
            exact hK _ _ (trivial) rfl (SA.out.same (Nat.ne_of_beq_eq_false rfl)) (SB.out.same (Nat.ne_of_beq_eq_false rfl))
          · intro ra RW hR hsA hsB hk hd K hK
            have SA := Lib.hid hsA
            have SB := Lib.hid hsB
            clear hsA hsB
            have hw : RW = wr.drew := SA.out.self rfl
            subst hw
            obtain ⟨v49, e49, g49, f49⟩ := hd 0 49 (by kernel_rfl) rfl
            have f49 : v49 = .pointer (some ⟨t, 0, none⟩) := f49
            subst f49
            obtain ⟨v54, e54, g54, f54⟩ := hd 5 54 (by kernel_rfl) rfl
            have f54 : v54 = .int .i64 xi := f54
            subst f54
            obtain ⟨v59, e59, g59, f59⟩ := hd 10 59 (by kernel_rfl) rfl
            have f59 : v59 = .int .i64 xc := f59
            subst f59
            clear hk hd
            have HR := Lib.hid hR
            clear hR
            go_simp
            refine (cancel_either HID.out xi xc).mono ?_
            rintro e6 w6 ⟨x6, y6, s6, rfl, hn6, hd6⟩
            exact hK _ _ trivial trivial (SideOut.self rfl ⟨s6, hn6, hd6⟩) (SideOut.self rfl trivial)
        intro vs RW hR hpA hpB hF
        have q0 : vs 0 = .pointer (some ⟨t, 0, none⟩) := hF 0 (by decide)
        have q1 : vs 1 = .slice (some ⟨g, o, none⟩) m c := hF 1 (by decide)
        have q2 : vs 2 = .int .i64 (j : Int) := hF 2 (by decide)
        have q3 : vs 3 = .pointer (some ⟨g, o + j * 3, none⟩) := hF 3 (by decide)
        have q4 : vs 4 = .pointer (some ⟨g, o + j * 3 + 1, none⟩) := hF 4 (by decide)
        have q5 : vs 5 = .int .i64 xi := hF 5 (by decide)
        have q6 : vs 6 = .slice (some ⟨g, o, none⟩) m c := hF 6 (by decide)
        have q7 : vs 7 = .int .i64 (j : Int) := hF 7 (by decide)
        have q8 : vs 8 = .pointer (some ⟨g, o + j * 3, none⟩) := hF 8 (by decide)
        have q9 : vs 9 = .pointer (some ⟨g, o + j * 3 + 2, none⟩) := hF 9 (by decide)
        have q10 : vs 10 = .int .i64 xc := hF 10 (by decide)
        have F60 := Lib.hid (hF 11 (by decide))
        simp only [setAll, List.setIfInBounds_toArray, List.set_cons_zero, List.set_cons_succ, q0, q1, q2, q3, q4, q5, q6, q7, q8, q9, q10]
        clear hF q0 q1 q2 q3 q4 q5 q6 q7 q8 q9 q10
        generalize vs 11 = v60 at *
        clear vs
        obtain ⟨s6, hn6, hd6⟩ := hpA
        have HB6 := Lib.hid ((below_drewN HB.out 1).trans (hd6.below HID.out.1)); have HI6 := Lib.hid hd6.1
        clear hd6 hR hpB
        go_wp2
        go_roundw
        case rel => exact ⟨j + 1, s6, by omega, by go_num, by omega, HB6.out, HI6.out⟩
        case measure => simp [intOf]; omega
    · obtain rfl : j = m := by omega
      have hpos := hin.pos
      have hSz : Hid (∀ q, Calls Try.prog 12 #[.pointer (some ⟨t, 0, none⟩)] (wr.drewN q) fun e w' => e = .returned (.int .i64 (s.n : Int)) ∧ wr.drewN q = w') := fun q => size_in (hin.drewN q)
      have HB := Lib.hid hbw; have HI := Lib.hid hin
      clear hbw hin
      generalize hM : s.n = M at *
      have HM := Lib.hid hM
      clear hM
      obtain ⟨k, hk, hkk⟩ : ∃ k : Nat, k < M ∧ (wrap64 (n.tmod (M : Int) + (M : Int))).tmod (M : Int) = (k : Int) := mod_up n M (by omega) (by omega)
      have hM0 : ((M : Int) == 0) = false := by rw [beq_eq_false_iff_ne]; omega
      go_wp2
      go_quiet ((go_at_call 12; exact quiet_left (hSz.out _)))
      have HIQ : Hid (TI w.heap.size NoT (wr.drewN nq) t s) := HI.out.drewN nq
      have HBQ : Hid (Below w.heap.size w (wr.drewN nq)) := below_drewN HB.out nq
      clear hSz HI HB hkk
      generalize wr.drewN nq = wq at *
      go_wp2
      go_loopw [10, 11] (fun v i wr => ∃ q : Nat, q ≤ M ∧ i = .int .i64 q ∧ Below wq.heap.size wq wr ∧ Own wr 25 1 v q ((s.ca.take q).map iV) ∧ ∀ b, v.ownBlock = some b → wq.heap.size ≤ b) (fun _ i _ => M - (intOf i).toNat)
      case atStart => exact ⟨0, by omega, rfl, Below.refl _ _, Own.nil_ _ _ _, fun b hb => by simp [Value.ownBlock] at hb⟩
      case round =>
        obtain ⟨q, hq, rfl, hbw, hown, hob⟩ := hrel
        have hSz := size_in (HIQ.out.below hbw)
        rw [HM.out] at hSz
        unfold pp at hSz
        have HSz := Lib.hid hSz
        have HB := Lib.hid hbw; have HOB := Lib.hid hob
        obtain ⟨A2, cap2, rfl, -, -⟩ := hown.len_
        have HO := Lib.hid hown
        by_cases hlt2 : q < M
        · have i5 : (q : Int) < (M : Int) := by omega
          have hCa := cause_in (HIQ.out.below hbw) (q : Int)
          rw [cause_at (by rw [HM.out]; exact hlt2)] at hCa
          unfold pp at hCa
          have HCa := Lib.hid hCa
          have HT : Hid (s.ca.take (q + 1) = s.ca.take q ++ [s.ca.getD q 0]) := take_one (by rw [HIQ.out.tr.cl, HM.out]; exact hlt2)
          clear hbw hob hown hSz hCa
          generalize s.ca.getD q 0 = y at *
          go_wp2_with (first
            | (go_at_call 12; refine HSz.out.mono ?_; rintro e3 w3 ⟨rfl, rfl⟩)
            | (go_at_call 11; refine HCa.out.mono ?_; rintro e3 w3 ⟨rfl, rfl⟩)
            | (at_builtin; refine wpList_append_mine _ rfl (.tmp 77) (.tmp 81) _ rfl 25 i0 _ 1 8 Try.underlying49 hi0 hz0 hz1 hz2 rfl (by omega) (.slice A2 q cap2) q ((s.ca.take q).map iV) rfl (by exact HO.out.alloc _) _ 1 1 [_] rfl rfl (by exact news_push rfl rfl) (by simp [Value.oneCell']) (by omega) (by simp only [maxLen]; omega) (by omega) _ rfl ?_; intro g2 o2 c2 w2 hown2 hgrow2 hat2; have HO2 := Lib.hid hown2; have HG2 := Lib.hid hgrow2; have HA2 := Lib.hid hat2; clear hown2 hgrow2 hat2))
          go_roundw
          case rel =>
            refine ⟨q + 1, by omega, by go_num, Below.grown (HB.out.alloc HB.out.size _) HG2.out (by simp; have := HB.out.size; omega) HOB.out, ?_, ?_⟩
            · rw [HT.out, List.map_append]
              exact HO2.out
            · intro b hb
              have : g2 = b := by simpa [Value.ownBlock] using hb
              subst this
              have hs := HB.out.size
              rcases HA2.out with h | h
              · exact HOB.out _ h
              · simp at h; omega
          case measure => simp [intOf]; omega
        · obtain rfl : q = M := by omega
          have HTK : Hid (s.ca.take q = s.ca) := List.take_of_length_le (by rw [HIQ.out.tr.cl, HM.out]; exact Nat.le_refl _)
          rw [HTK.out] at HO
          have HTR := Lib.hid HIQ.out.tr
          have hCan := cancel_in (HIQ.out.past hbw) k cz (by rw [HM.out]; exact hk) hc
          have hn61 := hn
          unfold pp at hCan
          have HCan := Lib.hid hCan
          have HSP : Hid (TI w.heap.size (fun b => wq.heap.size ≤ b ∧ b < wr.heap.size) wr t s) := HIQ.out.past hbw
          have HBX : Hid (Below w.heap.size w wr) := HBQ.out.trans (hbw.mono HBQ.out.size)
          clear hbw hob hown hSz hCan
          go_wp2_with (first
            | (go_at_call 12; refine HSz.out.mono ?_; rintro e3 w3 ⟨rfl, rfl⟩)
            | (go_at_call 13; refine (below_in HI6.out (k : Int)).mono ?_; rintro e7 w7 ⟨v7, rfl, hb7, ho7, -⟩; obtain ⟨A7, c7, rfl, -, -⟩ := ho7.len_; have HB7 := Lib.hid hb7; have HO7 := Lib.hid ho7; clear hb7 ho7)
            | (go_at_call 9; refine HCan.out.mono ?_; rintro e6 w6 ⟨k6, ca2, rfl, -, hm6, hd6⟩; have HMK := Lib.hid hm6; have HD6 := Lib.hid hd6; have HI6 := Lib.hid hd6.1; clear hm6 hd6))
          have HOW : Hid (Own w7 25 1 (.slice A2 q cap2) q (s.ca.map iV)) := ((HO.out.only HD6.out.2 (fun b hb hn => hn.2 ⟨HOB.out b hb, HO.out.lt hb⟩))).below HB7.out (fun b hb => Nat.lt_of_lt_of_le (HO.out.lt hb) HD6.out.2.size)
          have HI7 : Hid (TI w.heap.size (fun b => wq.heap.size ≤ b ∧ b < wr.heap.size) w7 t (s.wca ca2)) := HI6.out.below HB7.out
          have HB8 : Hid (Below w.heap.size w w7) := below_trans (HBX.out.trans (HD6.out.below HSP.out.1)) HB7.out
          have hPa : Hid (∀ i : Int, Calls Try.prog 19 #[.pointer (some ⟨t, 0, none⟩), .int .i64 i] w7 fun e w' => e = .returned (.int .i64 (parentO (s.wca ca2) i)) ∧ w7 = w') := fun i => parent_in HI7.out i
          have hCa : Hid (∀ i : Int, Calls Try.prog 11 #[.pointer (some ⟨t, 0, none⟩), .int .i64 i] w7 fun e w' => e = .returned (.int .i64 (causeO (s.wca ca2) i)) ∧ w7 = w') := fun i => cause_in HI7.out i
          have hS7 : Hid (Calls Try.prog 12 #[.pointer (some ⟨t, 0, none⟩)] w7 fun e w' => e = .returned (.int .i64 (q : Int)) ∧ w7 = w') := by
            have := size_in HI7.out
            rw [show (s.wca ca2).n = q from HM.out] at this
            exact this
          have HT7 := Lib.hid HI7.out.tr
          have hbln : (belowO (s.wca ca2) (k : Int)).length ≤ 1000 := by
            unfold belowO
            refine Nat.le_trans (List.length_filter_le _ _) ?_
            rw [List.length_range]
            have := HI7.out.nn
            omega
          generalize hbl : belowO (s.wca ca2) (k : Int) = bl at *
          have HBL := Lib.hid hbl
          clear hbl HIQ HBQ HSP HSz HCan HD6 HBX HI6 HI7 HB7
          generalize hL : bl.length = L at *
          have HL := Lib.hid hL
          clear hL
          obtain ⟨M, rfl⟩ : ∃ M, M = q := ⟨_, rfl⟩
          go_loopw [13] (fun i wr => ∃ q : Nat, q ≤ M ∧ i = .int .i64 q ∧ w7 = wr) (fun i _ => M - (intOf i).toNat)
          case atStart => exact ⟨0, by omega, rfl, rfl⟩
          case round =>
            obtain ⟨q, hq, rfl, rfl⟩ := hrel
            by_cases hq2 : q < M
            · have i5 : (q : Int) < (M : Int) := by omega
              obtain ⟨gw, ow, cw0, hv, -, -, -, hcw, -⟩ := HOW.out.form (by omega)
              simp only [Value.slice.injEq, true_and] at hv
              obtain ⟨rfl, rfl⟩ := hv
              have cw := hcw q (by omega)
              rw [List.getElem?_map, getD_get (d := 0) (by rw [HTR.out.cl, HM.out]; exact hq2)] at cw
              simp only [Option.map_some, iV] at cw
              clear hcw
              go_wp2_with (go_at_call 12; refine hS7.out.mono ?_; rintro e3 w3 ⟨rfl, rfl⟩)
              go_loopw [14, 15] (fun b i wy => ∃ z : Nat, z ≤ L ∧ i = .int .i64 z ∧ b = .bool (decide (q = k ∨ q ∈ bl.take z)) ∧ w7 = wy) (fun _ i _ => L - (intOf i).toNat)
              case atStart => exact ⟨0, by omega, rfl, by simp; exact nat_eqb q k, rfl⟩
              case round =>
                obtain ⟨z, hz, rfl, rfl, rfl⟩ := hrel
                by_cases hzl : z < L
                · have i6 : (z : Int) < (L : Int) := by omega
                  have HT : Hid (bl.take (z + 1) = bl.take z ++ [bl.getD z 0]) := take_one (by rw [HL.out]; exact hzl)
                  by_cases hb : q = k ∨ q ∈ bl.take z
                  · rw [decide_eq_true hb]
                    have HB9 : Hid (decide (q = k ∨ q ∈ bl.take (z + 1)) = true) := decide_eq_true (hb.imp id fun h => by rw [HT.out]; exact List.mem_append_left _ h)
                    clear hb
                    go_wp2
                    go_roundw
                    case rel => exact ⟨z + 1, by omega, by go_num, by rw [HB9.out], by first | rfl | trivial⟩
                    case measure => simp [intOf]; omega
                  · rw [decide_eq_false hb]
                    obtain ⟨gb, ob, cb0, hv, -, -, -, hcb2, -⟩ := HO7.out.form (by omega)
                    simp only [Value.slice.injEq, true_and] at hv
                    obtain ⟨rfl, rfl⟩ := hv
                    have cx := hcb2 z (by omega)
                    rw [List.getElem?_map, getD_get (d := 0) (by rw [HL.out]; exact hzl)] at cx
                    simp only [Option.map_some, nV] at cx
                    have HB9 : Hid (decide (q = k ∨ q ∈ bl.take (z + 1)) = decide (bl.getD z 0 = q)) := by
                      refine decide_eq_decide.2 ⟨fun h => ?_, fun h => .inr ?_⟩
                      · rcases h with h | h
                        · exact absurd (.inl h) hb
                        · rw [HT.out] at h
                          rcases List.mem_append.1 h with h | h
                          · exact absurd (.inr h) hb
                          · exact (List.mem_singleton.1 h).symm
                      · rw [HT.out, h]; simp
                    clear hb hcb2 HT
                    generalize bl.getD z 0 = x at *
                    by_cases hxq : x = q
                    · subst hxq
                      go_wp2
                      go_roundw
                      case rel => exact ⟨z + 1, by omega, by go_num, by rw [HB9.out]; simp, by first | rfl | trivial⟩
                      case measure => simp [intOf]; omega
                    · have hxb : ((x : Int) == (q : Int)) = false := by rw [beq_eq_false_iff_ne]; omega
                      go_wp2
                      go_roundw
                      case rel => exact ⟨z + 1, by omega, by go_num, by rw [HB9.out, decide_eq_false hxq], by first | rfl | trivial⟩
                      case measure => simp [intOf]; omega
                · obtain rfl : z = L := by omega
                  rw [show bl.take z = bl from List.take_of_length_le (by rw [HL.out]; exact Nat.le_refl _)]
                  rcases stays_par HT7.out (q := q) (by show q < s.n; rw [HM.out]; exact hq2) with hpv | ⟨p, hpv, hcp | ⟨hcp, hne⟩⟩
                  · have HPV := Lib.hid hpv
                    have HCP := Lib.hid hpv
                    clear hpv
                    rcases stays_at HTR.out HMK.out (q := q) (by rw [HM.out]; exact hq2) with ⟨hin1, hz0, hz1⟩ | ⟨hin1, hz0, hz1⟩ | ⟨hin1, hz1⟩
                    · have HZ : Hid (causeO (s.wca ca2) (q : Int) = cz) := by show _ = _; rw [cause_at (by show q < s.n; rw [HM.out]; exact hq2)]; exact hz1
                      rw [show decide (q = k ∨ q ∈ bl) = true from decide_eq_true (by rw [← HBL.out]; exact hin1)]
                      rw [hz0] at cw
                      clear hin1 hz0 hz1
                      go_wp2_with (first
                        | (go_at_call 19; refine (hPa.out _).mono ?_; rintro e9 w9 ⟨rfl, rfl⟩; rw [HPV.out])
                        | (go_at_call 11; refine (hCa.out _).mono ?_; rintro e9 w9 ⟨rfl, rfl⟩; first | rw [HZ.out] | rw [HCP.out]))
                      go_roundw
                      case rel => exact ⟨q + 1, by omega, by go_num, by first | rfl | trivial⟩
                      case measure => simp [intOf]; omega
                    · have HZ : Hid (causeO (s.wca ca2) (q : Int) = s.ca.getD q 0) := by show _ = _; rw [cause_at (by show q < s.n; rw [HM.out]; exact hq2)]; exact hz1
                      rw [show decide (q = k ∨ q ∈ bl) = true from decide_eq_true (by rw [← HBL.out]; exact hin1)]
                      have hyb : (s.ca.getD q 0 == 0) = false := by simpa using hz0
                      clear hin1 hz0 hz1
                      generalize s.ca.getD q 0 = y at *
                      go_wp2_with (first
                        | (go_at_call 19; refine (hPa.out _).mono ?_; rintro e9 w9 ⟨rfl, rfl⟩; rw [HPV.out])
                        | (go_at_call 11; refine (hCa.out _).mono ?_; rintro e9 w9 ⟨rfl, rfl⟩; first | rw [HZ.out] | rw [HCP.out]))
                      go_roundw
                      case rel => exact ⟨q + 1, by omega, by go_num, by first | rfl | trivial⟩
                      case measure => simp [intOf]; omega
                    · have HZ : Hid (causeO (s.wca ca2) (q : Int) = s.ca.getD q 0) := by show _ = _; rw [cause_at (by show q < s.n; rw [HM.out]; exact hq2)]; exact hz1
                      rw [show decide (q = k ∨ q ∈ bl) = false from decide_eq_false (by rw [← HBL.out]; exact hin1)]
                      clear hin1 hz1
                      generalize s.ca.getD q 0 = y at *
                      go_wp2_with (first
                        | (go_at_call 19; refine (hPa.out _).mono ?_; rintro e9 w9 ⟨rfl, rfl⟩; rw [HPV.out])
                        | (go_at_call 11; refine (hCa.out _).mono ?_; rintro e9 w9 ⟨rfl, rfl⟩; first | rw [HZ.out] | rw [HCP.out]))
                      go_roundw
                      case rel => exact ⟨q + 1, by omega, by go_num, by first | rfl | trivial⟩
                      case measure => simp [intOf]; omega
                  · have HPV := Lib.hid hpv; have HCP := Lib.hid hcp
                    clear hpv hcp
                    rcases stays_at HTR.out HMK.out (q := q) (by rw [HM.out]; exact hq2) with ⟨hin1, hz0, hz1⟩ | ⟨hin1, hz0, hz1⟩ | ⟨hin1, hz1⟩
                    · have HZ : Hid (causeO (s.wca ca2) (q : Int) = cz) := by show _ = _; rw [cause_at (by show q < s.n; rw [HM.out]; exact hq2)]; exact hz1
                      rw [show decide (q = k ∨ q ∈ bl) = true from decide_eq_true (by rw [← HBL.out]; exact hin1)]
                      rw [hz0] at cw
                      clear hin1 hz0 hz1
                      go_wp2_with (first
                        | (go_at_call 19; refine (hPa.out _).mono ?_; rintro e9 w9 ⟨rfl, rfl⟩; rw [HPV.out])
                        | (go_at_call 11; refine (hCa.out _).mono ?_; rintro e9 w9 ⟨rfl, rfl⟩; first | rw [HZ.out] | rw [HCP.out]))
                      go_roundw
                      case rel => exact ⟨q + 1, by omega, by go_num, by first | rfl | trivial⟩
                      case measure => simp [intOf]; omega
                    · have HZ : Hid (causeO (s.wca ca2) (q : Int) = s.ca.getD q 0) := by show _ = _; rw [cause_at (by show q < s.n; rw [HM.out]; exact hq2)]; exact hz1
                      rw [show decide (q = k ∨ q ∈ bl) = true from decide_eq_true (by rw [← HBL.out]; exact hin1)]
                      have hyb : (s.ca.getD q 0 == 0) = false := by simpa using hz0
                      clear hin1 hz0 hz1
                      generalize s.ca.getD q 0 = y at *
                      go_wp2_with (first
                        | (go_at_call 19; refine (hPa.out _).mono ?_; rintro e9 w9 ⟨rfl, rfl⟩; rw [HPV.out])
                        | (go_at_call 11; refine (hCa.out _).mono ?_; rintro e9 w9 ⟨rfl, rfl⟩; first | rw [HZ.out] | rw [HCP.out]))
                      go_roundw
                      case rel => exact ⟨q + 1, by omega, by go_num, by first | rfl | trivial⟩
                      case measure => simp [intOf]; omega
                    · have HZ : Hid (causeO (s.wca ca2) (q : Int) = s.ca.getD q 0) := by show _ = _; rw [cause_at (by show q < s.n; rw [HM.out]; exact hq2)]; exact hz1
                      rw [show decide (q = k ∨ q ∈ bl) = false from decide_eq_false (by rw [← HBL.out]; exact hin1)]
                      clear hin1 hz1
                      generalize s.ca.getD q 0 = y at *
                      go_wp2_with (first
                        | (go_at_call 19; refine (hPa.out _).mono ?_; rintro e9 w9 ⟨rfl, rfl⟩; rw [HPV.out])
                        | (go_at_call 11; refine (hCa.out _).mono ?_; rintro e9 w9 ⟨rfl, rfl⟩; first | rw [HZ.out] | rw [HCP.out]))
                      go_roundw
                      case rel => exact ⟨q + 1, by omega, by go_num, by first | rfl | trivial⟩
                      case measure => simp [intOf]; omega
                  · have hcb2 : (causeO (s.wca ca2) (p : Int) != 0) = true := by simpa using hcp
                    clear hcp
                    generalize hcx : causeO (s.wca ca2) (p : Int) = cx at *
                    have HPV := Lib.hid hpv; have HCP := Lib.hid hcx
                    clear hpv hcx
                    rcases stays_at HTR.out HMK.out (q := q) (by rw [HM.out]; exact hq2) with ⟨hin1, hz0, hz1⟩ | ⟨hin1, hz0, hz1⟩ | ⟨hin1, hz1⟩
                    · have HZ : Hid (causeO (s.wca ca2) (q : Int) = cz) := by show _ = _; rw [cause_at (by show q < s.n; rw [HM.out]; exact hq2)]; exact hz1
                      rw [show decide (q = k ∨ q ∈ bl) = true from decide_eq_true (by rw [← HBL.out]; exact hin1)]
                      have hzz : ¬ ca2.getD q 0 = 0 := hne
                      rw [hz0] at cw
                      clear hin1 hz0 hz1 hzz
                      go_wp2_with (first
                        | (go_at_call 19; refine (hPa.out _).mono ?_; rintro e9 w9 ⟨rfl, rfl⟩; rw [HPV.out])
                        | (go_at_call 11; refine (hCa.out _).mono ?_; rintro e9 w9 ⟨rfl, rfl⟩; first | rw [HZ.out] | rw [HCP.out]))
                      go_roundw
                      case rel => exact ⟨q + 1, by omega, by go_num, by first | rfl | trivial⟩
                      case measure => simp [intOf]; omega
                    · have HZ : Hid (causeO (s.wca ca2) (q : Int) = s.ca.getD q 0) := by show _ = _; rw [cause_at (by show q < s.n; rw [HM.out]; exact hq2)]; exact hz1
                      rw [show decide (q = k ∨ q ∈ bl) = true from decide_eq_true (by rw [← HBL.out]; exact hin1)]
                      have hzz : ¬ ca2.getD q 0 = 0 := hne
                      have hyb : (s.ca.getD q 0 == 0) = false := by simpa using hz0
                      clear hin1 hz0 hz1 hzz
                      generalize s.ca.getD q 0 = y at *
                      go_wp2_with (first
                        | (go_at_call 19; refine (hPa.out _).mono ?_; rintro e9 w9 ⟨rfl, rfl⟩; rw [HPV.out])
                        | (go_at_call 11; refine (hCa.out _).mono ?_; rintro e9 w9 ⟨rfl, rfl⟩; first | rw [HZ.out] | rw [HCP.out]))
                      go_roundw
                      case rel => exact ⟨q + 1, by omega, by go_num, by first | rfl | trivial⟩
                      case measure => simp [intOf]; omega
                    · have HZ : Hid (causeO (s.wca ca2) (q : Int) = s.ca.getD q 0) := by show _ = _; rw [cause_at (by show q < s.n; rw [HM.out]; exact hq2)]; exact hz1
                      rw [show decide (q = k ∨ q ∈ bl) = false from decide_eq_false (by rw [← HBL.out]; exact hin1)]
                      have hzz : ¬ ca2.getD q 0 = 0 := hne
                      rw [hz1] at hzz
                      have hyb : (s.ca.getD q 0 == 0) = false := by simpa using hzz
                      clear hin1 hz1 hzz
                      generalize s.ca.getD q 0 = y at *
                      go_wp2_with (first
                        | (go_at_call 19; refine (hPa.out _).mono ?_; rintro e9 w9 ⟨rfl, rfl⟩; rw [HPV.out])
                        | (go_at_call 11; refine (hCa.out _).mono ?_; rintro e9 w9 ⟨rfl, rfl⟩; first | rw [HZ.out] | rw [HCP.out]))
                      go_roundw
                      case rel => exact ⟨q + 1, by omega, by go_num, by first | rfl | trivial⟩
                      case measure => simp [intOf]; omega
            · obtain rfl : q = M := by omega
              go_wp2_with (go_at_call 12; refine hS7.out.mono ?_; rintro e3 w3 ⟨rfl, rfl⟩)
              go_ret
              exact ⟨rfl, HB8.out⟩

set_option maxHeartbeats 2000000 in
theorem stays_big (A : Option Addr) (m c : Nat) (n cz : Int) (w : World) (hm : ¬ (m ≤ 60 ∧ cz ≠ 0)) :
    Calls Try.prog 6 #[.slice A m c, .int .i64 n, .int .i64 cz] w fun e w' => e = .returned (.bool true) ∧ Below w.heap.size w w' := by
  have hA : Hid (∀ w, Calls Try.prog 7 #[] w fun e w' => e = .returned (.bool true) ∧ Below w.heap.size w w') := awake_any
  by_cases h1 : m ≤ 60
  · obtain rfl : cz = 0 := by
      by_cases h0 : cz = 0
      · exact h0
      · exact absurd ⟨h1, h0⟩ hm
    have i1 : ¬ (60 : Int) < (m : Int) := by omega
    clear hm
    go_enter Try.func6, Try.ntmps6
    go_wp2_with (first
      | (go_at_call 7; refine (hA.out _).mono ?_; rintro e2 w2 ⟨rfl, hb2⟩; have HB2 := Lib.hid (below_trans HB1.out hb2); clear hb2)
      | (go_at_call 7; refine (hA.out _).mono ?_; rintro e1 w1 ⟨rfl, hb1⟩; have HB1 := Lib.hid hb1; clear hb1))
    go_ret
    exact ⟨rfl, HB2.out⟩
  · have i1 : (60 : Int) < (m : Int) := by omega
    clear hm
    go_enter Try.func6, Try.ntmps6
    go_wp2_with (first
      | (go_at_call 7; refine (hA.out _).mono ?_; rintro e2 w2 ⟨rfl, hb2⟩; have HB2 := Lib.hid (below_trans HB1.out hb2); clear hb2)
      | (go_at_call 7; refine (hA.out _).mono ?_; rintro e1 w1 ⟨rfl, hb1⟩; have HB1 := Lib.hid hb1; clear hb1))
    go_ret
    exact ⟨rfl, HB2.out⟩
theorem stays_any (acts : List ActD) (A : Option Addr) (m c : Nat) (n cz : Int) (w : World) (hr : ActsAt w w.heap.size A m acts) :
    Calls Try.prog 6 #[.slice A m c, .int .i64 n, .int .i64 cz] w fun e w' => e = .returned (.bool true) ∧ Below w.heap.size w w' := by
  by_cases h : m ≤ 60 ∧ cz ≠ 0
  · exact stays_main acts A m c n cz w hr h.1 h.2
  · exact stays_big A m c n cz w h
end Go.Proofs.Ytddklpphcfgooaa
