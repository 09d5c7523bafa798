/-
  The contract of the splitter's Write; no condition beyond those that each theorem states.
-/
import Derived.Test.YthgjfdjjnkgicaaPlain7
namespace Go.Proofs.Ythgjfdjjnkgicaa
open Go.RowKit Go.Rb
attribute [local irreducible] Go.wpQuiet

theorem infoR : (Try.prog.info? 32).map (fun i => (i.zero, i.size, i.bytes)) = some (some (.agg #[.int .i64 0, .int .i64 0, .string ⟨#[]⟩]), 3, 32) := by kernel_rfl
theorem own_ne_blk {w : World} {e t : TypeId} {sz n g : Nat} {v : Value} {xs : List Value} {cs : Array Value} (h : Own w e sz v n xs) (hb : Blk w g t cs) (hne : e ≠ t) : v.ownBlock ≠ some g := by
  intro hk
  rcases h.2 with ⟨rfl, _⟩ | ⟨g', off, cap, cur, rfl, hg, _⟩
  · simp [Value.ownBlock] at hk
  · have e1 : g' = g := by simpa [Value.ownBlock] using hk
    subst e1
    exact Blk.ne_ (t := _) (t' := _) hg hb hne rfl

set_option maxHeartbeats 1000000 in
theorem write_over {p : Nat} {s : SS} (x : List UInt8) (w : World) (h : Rep w p s) (ho : s.over = true) :
    Calls Try.prog 12 #[pp p, .string (mk x)] w fun e w' => e = .returned (.tuple #[.slice none 0 0, .int .i64 0]) ∧ w = w' := by
  have c4 := h.c4
  rw [ho] at c4
  clear h
  generalize mk x = b at *
  unfold pp
  go_enter Try.func12, Try.ntmps12
  go_wp2_with fail
  go_ret2
  exact ⟨rfl, rfl⟩
set_option maxRecDepth 20000 in
set_option maxHeartbeats 8000000 in
theorem write_any {p : Nat} {s : SS} (x : List UInt8) (w : World) (h : Rep w p s) (ho : s.over = false) (hm : s.most ≤ 4096) (hx : s.held.length + x.length ≤ 100000) (hn : s.n ≤ 1000000) (ha : s.a ≤ 1000000) :
    Calls Try.prog 12 #[pp p, .string (mk x)] w fun e w' => ∃ v, e = .returned (.tuple #[v, .int .i64 (wrE s x)]) ∧ Own w' 32 3 v (wrOut s x).length (rcs (wrOut s x)) ∧ (∀ k, v.ownBlock = some k → w.heap.size ≤ k) ∧ Went w p (wrS s x) w' := by
  obtain ⟨i0, hi0, hz0, hz1, hz2⟩ := info_parts infoR
  have c1 := h.c1
  have c4 := h.c4
  have f1 := h.fp 1
  rw [ho] at c4
  have hpl := h.lt
  have hz := mk_size s.held
  have hzx := mk_size x
  have h1 := h.setHeld (s.held ++ x)
  rw [← mk_append] at h1
  have HR1 : Hid (Rep (w.setCell ⟨p, 1, none⟩ (.string (mk s.held ++ mk x))) p ⟨s.most, s.held ++ x, s.n, s.a, false⟩) := by rw [← ho]; exact h1
  have HO1 := Lib.hid ((Only.refl (fun k => k = p) w).setCell (p := ⟨p, 1, none⟩) (fun _ => rfl) (.string (mk s.held ++ mk x)))
  have hE : wrE s x = if (wrR s x).long then 10 else if tooLong s.most (wrR s x).rest then 10 else 0 := by unfold wrE; rw [ho]; rfl
  have hO : wrOut s x = (wrR s x).out := by unfold wrOut; rw [ho]; rfl
  have hS : wrS s x = if (wrR s x).long then ⟨s.most, [], (wrR s x).n, (wrR s x).a, true⟩ else if tooLong s.most (wrR s x).rest then ⟨s.most, [], (wrR s x).n, (wrR s x).a, true⟩ else ⟨s.most, (wrR s x).rest, (wrR s x).n, (wrR s x).a, false⟩ := by unfold wrS; rw [ho]; rfl
  obtain ⟨E0, hE0⟩ : ∃ e, wrE s x = e := ⟨_, rfl⟩
  obtain ⟨O0, hO0⟩ : ∃ e, wrOut s x = e := ⟨_, rfl⟩
  obtain ⟨S0, hS0⟩ : ∃ e, wrS s x = e := ⟨_, rfl⟩
  rw [hE0] at hE ⊢
  rw [hO0] at hO ⊢
  rw [hS0] at hS ⊢
  clear hE0 hO0 hS0
  have HI : Hid (wrR s x = pre [] (recs s.most (s.held ++ x) [] s.a s.n)) := rfl
  obtain ⟨y, hy⟩ : ∃ y, s.held ++ x = y := ⟨_, rfl⟩
  have hyl : y.length ≤ 100000 := by rw [← hy]; simp; omega
  rw [hy] at HR1 HI
  obtain ⟨R, hR⟩ : ∃ R, wrR s x = R := ⟨_, rfl⟩
  rw [hR] at HI hE hO hS
  have HE0 := Lib.hid hE
  have HO0 := Lib.hid hO
  have HS0 := Lib.hid hS
  clear hy hR hE hO hS h h1 ho
  unfold pp
  go_enter Try.func12, Try.ntmps12
  go_wp2_with fail
  go_loopw [6] (fun v wr => ∃ (o : List Rc) (l : List UInt8) (n a : Nat), Own wr 32 3 v o.length (rcs o) ∧ Hid (∀ k, v.ownBlock = some k → w.heap.size ≤ k) ∧ Went w p ⟨s.most, l, n, a, false⟩ wr ∧ R = pre o (recs s.most l [] a n) ∧ n + l.length ≤ 1100000 ∧ a + l.length ≤ 1100000 ∧ l.length ≤ 100000 ∧ o.length + l.length ≤ 100000) (fun _ wr => match wr.cell? ⟨p, 1, none⟩ with | some (.string b) => b.size | _ => 0)
  case atStart => exact ⟨[], y, s.n, s.a, Own.nil_ _ _ _, (show Hid _ from fun k hk => by simp [Value.ownBlock] at hk), ⟨HO1.out, HR1.out⟩, HI.out, by omega, by omega, by omega, by simp; omega⟩
  case round =>
    obtain ⟨o, l, n, a, hv, hkv, hwt, hrr, hb1, hb2, hb3, hb4⟩ := hrel
    obtain ⟨Av, cv, rfl, -, -⟩ := hv.len_
    have c1 := hwt.2.c1
    have HW := Lib.hid hwt
    have HV := Lib.hid hv
    have HQ := Lib.hid hrr
    have HKV := Lib.hid hkv.out
    clear hwt hv hkv hrr HR1 HO1 HI c4 f1
    by_cases hin : (10 : UInt8) ∈ l
    · obtain ⟨l1, l2, rfl, hn1⟩ := split_mem l 10 hin
      have hlen : (l1 ++ 10 :: l2).length = l1.length + 1 + l2.length := by simp; omega
      rw [hlen] at hb1 hb2 hb3 hb4
      have HC := Lib.hid (cut_any l1 l2 10 hn1 (by rw [hlen]; omega) wr)
      have HT := Lib.hid (fun W => trim_any l1 W (by omega))
      have hrq := HQ.out
      rw [recs_cut s.most l1 l2 [] a n hn1, List.nil_append] at hrq
      have htl := trimR_le l1
      have hzb1 := mk_size l1
      by_cases hlg : s.most < (trimR l1).length
      · rw [if_pos hlg] at hrq
        subst hrq
        have HRC : Hid (∀ q, Calls Try.prog 16 #[pp p, .string (mk (trimR l1)), .int .i64 ((l1.length : Int) + 1)] (wr.drewN q) fun e w' => e = .returned (.tuple #[.agg #[.int .i64 0, .int .i64 0, .string ⟨#[]⟩], .int .i64 10]) ∧ Went (wr.drewN q) p (endS ⟨s.most, l1 ++ 10 :: l2, n, a, false⟩) w') := fun q =>
          record_long (trimR l1) (l1.length + 1) (wr.drewN q) (HW.out.2.below (below_drewN (Below.refl _ _) q)) hlg (by omega)
        clear HQ
        generalize mk (l1 ++ 10 :: l2) = b at *
        generalize mk l1 = b1 at *
        generalize mk l2 = b2 at *
        generalize mk (trimR l1) = b3 at *
        generalize l1.length = m1 at *
        unfold pp at HRC
        go_wp2_with (first
          | (go_at_call 15; refine HC.out.mono ?_; rintro e1 w1 ⟨rfl, qd, rfl⟩)
          | (go_at_call 17; refine (HT.out _).mono ?_; rintro e2 w2 ⟨rfl, rfl⟩)
          | (go_at_call 16; go_loud (refine (HRC.out _).mono ?_; rintro e3 w3 ⟨rfl, hw3⟩; have HW3 := Lib.hid hw3; clear hw3)))
        go_ret2
        rw [HE0.out, HO0.out, HS0.out]
        simp only [pre, if_true, List.append_nil]
        refine ⟨.slice Av o.length cv, rfl, ?_, HKV.out, ?_⟩
        · refine Own.alloc (HV.out.only (S := fun k => k = p) (((Only.refl _ _).drewN _).trans HW3.out.1 (fun _ _ h => h)) (fun k hk h => ?_)) _
          have := HKV.out k hk
          have h : k = p := h
          omega
        · exact ⟨(HW.out.1.trans (((Only.refl _ _).drewN _).trans HW3.out.1 (fun _ _ h => h)) (fun _ _ h => h)).alloc _, HW3.out.2.below (below_al (Below.refl _ _) _)⟩
      · rw [if_neg hlg, pre_pre] at hrq
        have HR5 := Lib.hid hrq
        have hdr : (l1 ++ 10 :: l2).drop (l1.length + 1) = l2 := by rw [← List.drop_drop, List.drop_left]; rfl
        have HRC : Hid (∀ q, Calls Try.prog 16 #[pp p, .string (mk (trimR l1)), .int .i64 ((l1.length : Int) + 1)] (wr.drewN q) fun e w' => e = .returned (.tuple #[.agg #[.int .i64 (n : Int), .int .i64 (a : Int), .string (mk (trimR l1))], .int .i64 0]) ∧ Went (wr.drewN q) p ⟨s.most, l2, n + 1, a + (l1.length + 1), false⟩ w') := fun q => by
          have := record_ok (trimR l1) (l1.length + 1) (wr.drewN q) (HW.out.2.below (below_drewN (Below.refl _ _) q)) (by show _ ≤ s.most; omega) hm (by show _ ≤ (l1 ++ 10 :: l2).length; omega) (by show (l1 ++ 10 :: l2).length ≤ _; omega) (by show n ≤ _; omega) (by show a ≤ _; omega)
          simp only [hdr, rcv, nV] at this
          exact this
        have HRO : Hid (rcs (o ++ [⟨n, a, trimR l1⟩]) = rcs o ++ [.int .i64 (n : Int), .int .i64 (a : Int), .string (mk (trimR l1))]) := by rw [show Hid _ = _ from rfl, rcs_append]; rfl
        have HM2 := Lib.hid (mk_size l2)
        clear hrq HQ hdr
        have hol : o.length ≤ 100000 := by omega
        obtain ⟨b3, hb3'⟩ : ∃ b3, mk (trimR l1) = b3 := ⟨_, rfl⟩
        rw [hb3'] at HRC HT HRO
        have hzl : (mk (l1 ++ 10 :: l2)).size = l1.length + 1 + l2.length := by rw [mk_size, hlen]
        obtain ⟨b, hb0'⟩ : ∃ b, mk (l1 ++ 10 :: l2) = b := ⟨_, rfl⟩
        rw [hb0'] at HC hzl c1
        have HC1 := Lib.hid c1
        have HZL := Lib.hid hzl
        clear hb3' hb0' hzl
        generalize mk l1 = b1 at *
        obtain ⟨m1, hm1⟩ : ∃ m, l1.length = m := ⟨_, rfl⟩
        obtain ⟨m2, hm2⟩ : ∃ m, l2.length = m := ⟨_, rfl⟩
        obtain ⟨lo, hlo⟩ : ∃ m, o.length = m := ⟨_, rfl⟩
        have HLO := Lib.hid hlo
        rw [hm1] at HRC hzb1 HR5 hlen htl hb1 hb2 hb3 hb4
        rw [hm1] at HZL
        rw [hlo] at HV hol hb4 HKV ⊢
        obtain ⟨ro, hro⟩ : ∃ ro, rcs o = ro := ⟨_, rfl⟩
        rw [hro] at HV HRO
        have HMM := Lib.hid hm1
        have HMM2 := Lib.hid hm2
        clear hm1 hlo hro hlen
        unfold pp at HRC
        go_wp2_with (first
          | (go_at_call 15; refine HC.out.mono ?_; rintro e1 w1 ⟨rfl, qd, rfl⟩)
          | (go_at_call 17; refine (HT.out _).mono ?_; rintro e2 w2 ⟨rfl, rfl⟩)
          | (go_at_call 16; go_loud (refine (HRC.out _).mono ?_; rintro e3 w3 ⟨rfl, hw3⟩; have HW3 := Lib.hid (show Only (fun k => k = p) wr w3 ∧ Rep w3 p ⟨s.most, l2, n + 1, a + (m1 + 1), false⟩ from ⟨((Only.refl _ _).drewN _).trans hw3.1 (fun _ _ h => h), hw3.2⟩); have HV3 := Lib.hid (HV.out.only HW3.out.1 (fun k hk h => by have := HKV.out k hk; have h : k = p := h; omega)); clear hw3))
          | (at_builtin; go_loud (refine wpList_append_mine _ rfl (.tmp 50) (.tmp 52) _ rfl 32 i0 _ 3 32 Try.underlying23 hi0 hz0 hz1 hz2 rfl (by omega) (.slice Av lo cv) lo ro rfl (by exact (HV3.out.alloc _).alloc _) _ 1 1 [.int .i64 (n : Int), .int .i64 (a : Int), .string b3] rfl rfl (by exact news_pushs rfl (by simp)) (by simp [Value.oneCell']) (by omega) (by simp only [maxLen]; omega) (by omega) _ rfl ?_; intro g5 o5 c5 w5 hown5 hgrow5 hat5; have HO5 := Lib.hid hown5; have HG5 := Lib.hid ((((Only.refl (fun k => (Value.slice Av lo cv).ownBlock = some k) w3).alloc _).alloc _).grown hgrow5 (fun k hk _ => hk)); have HK5 : Hid (w.heap.size ≤ g5) := (by show _ ≤ _; rcases hat5 with h | h; exact HKV.out _ h; rw [h]; have h1 := HW.out.1.size; have h2 := HW3.out.1.size; simp; omega); clear hown5 hgrow5 hat5)))
        have hor5 : Rep w5 p ⟨s.most, l2, n + 1, a + (m1 + 1), false⟩ := HW3.out.2.frame HG5.out (fun hk => by have := HKV.out _ hk; omega)
        have hc5 := hor5.c1
        go_roundw
        case rel =>
          refine ⟨o ++ [⟨n, a, trimR l1⟩], l2, n + 1, a + (m1 + 1), ?_, ?_, ⟨?_, hor5⟩, HR5.out, by omega, by omega, by omega, by simp only [List.length_append, List.length_cons, List.length_nil]; rw [HLO.out]; omega⟩
          · rw [HRO.out, List.length_append, HLO.out]; exact HO5.out
          · exact fun k hk => by simp [Value.ownBlock] at hk; rw [← hk]; exact HK5.out
          · exact (HW.out.1.trans HW3.out.1 (fun _ _ h => h)).trans HG5.out (fun k hk h => by have := HKV.out k h; omega)
        case measure =>
          simp only [hc5, HC1.out]
          have h1 : (mk l2).size = m2 := HM2.out.trans HMM2.out
          have h2 := HZL.out
          have h3 := HMM2.out
          omega
    · have HC := Lib.hid (cut_none l 10 hin wr)
      have hrq := HQ.out
      rw [recs_none s.most l [] a n hin, List.nil_append] at hrq
      subst hrq
      have HE := Lib.hid (end_any wr HW.out.2)
      have c0 := HW.out.2.c0
      have hzl := mk_size l
      have HIX := fun j (hj : j < l.length) => idx_mk l l.length j rfl hj
      clear HQ
      unfold pp at HE
      rcases Nat.lt_trichotomy l.length (s.most + 1) with hlt | heq | hgt
      · have htl : tooLong s.most l = false := by unfold tooLong; rw [decide_eq_false (by omega), decide_eq_false (by omega)]; rfl
        have HTL := Lib.hid htl
        clear htl
        have j1 : ¬ (s.most : Int) + 1 < (l.length : Int) := by omega
        have j2 : ((l.length : Int) == (s.most : Int) + 1) = false := by rw [beq_eq_false_iff_ne]; omega
        clear HIX HE
        generalize mk l = b at *
        obtain ⟨m, hm'⟩ : ∃ m, l.length = m := ⟨_, rfl⟩
        rw [hm'] at hzl j1 j2
        clear hm' hb1 hb2 hb3 hb4 hlt
        go_wp2_with (go_at_call 15; refine HC.out.mono ?_; rintro e1 w1 ⟨rfl, rfl⟩)
        go_ret2
        rw [HE0.out, HO0.out, HS0.out]
        simp only [pre, List.append_nil, Bool.false_eq_true, if_false, HTL.out]
        exact ⟨.slice Av o.length cv, rfl, HV.out, HKV.out, HW.out⟩
      · have j1 : ¬ (s.most : Int) + 1 < (l.length : Int) := by omega
        have j2 : ((l.length : Int) == (s.most : Int) + 1) = true := by rw [beq_iff_eq]; omega
        have hix := HIX s.most (by omega)
        have e1 : l.length - 1 = s.most := by omega
        by_cases hc : l.getD s.most 0 = 13
        · have HTL : Hid (tooLong s.most l = false) := by show tooLong s.most l = false; unfold tooLong; rw [decide_eq_false (by omega), e1, hc]; simp
          rw [hc] at hix
          clear HIX HE
          generalize mk l = b at *
          obtain ⟨m, hm'⟩ : ∃ m, l.length = m := ⟨_, rfl⟩
          rw [hm'] at hzl j1 j2 heq
          have j3 : (m : Int) - 1 = (s.most : Int) := by omega
          clear hm' hb1 hb2 hb3 hb4 e1
          go_wp2_with (first
            | (go_at_call 15; refine HC.out.mono ?_; rintro e1 w1 ⟨rfl, rfl⟩)
            | rw [j3, hix])
          go_ret2
          rw [HE0.out, HO0.out, HS0.out]
          simp only [pre, List.append_nil, Bool.false_eq_true, if_false, HTL.out]
          exact ⟨.slice Av o.length cv, rfl, HV.out, HKV.out, HW.out⟩
        · have HTL : Hid (tooLong s.most l = true) := by show tooLong s.most l = true; unfold tooLong; rw [decide_eq_false (by omega), e1, decide_eq_true heq, show (l.getD s.most 0 == 13) = false from by rw [beq_eq_false_iff_ne]; exact hc]; rfl
          obtain ⟨ch, hch⟩ : ∃ ch, l.getD s.most 0 = ch := ⟨_, rfl⟩
          rw [hch] at hix hc
          have hcn : ((ch.toNat : Int) == 13) = false := by rw [beq_eq_false_iff_ne]; intro h; exact hc (UInt8.toNat_inj.1 (by simp; omega))
          clear HIX hc hch
          generalize mk l = b at *
          obtain ⟨m, hm'⟩ : ∃ m, l.length = m := ⟨_, rfl⟩
          rw [hm'] at hzl j1 j2 heq
          have j3 : (m : Int) - 1 = (s.most : Int) := by omega
          clear hm' hb1 hb2 hb3 hb4 e1
          go_wp2_with (first
            | (go_at_call 15; refine HC.out.mono ?_; rintro e1 w1 ⟨rfl, rfl⟩)
            | (go_at_call 18; refine HE.out.mono ?_; rintro e2 w2 ⟨rfl, hw2⟩; have HW2 := Lib.hid hw2; clear hw2)
            | rw [j3, hix])
          go_ret2
          rw [HE0.out, HO0.out, HS0.out]
          simp only [pre, List.append_nil, Bool.false_eq_true, if_false, HTL.out, if_true]
          exact ⟨.slice Av o.length cv, rfl, HV.out.only HW2.out.1 (fun k hk h => by have := HKV.out k hk; have h : k = p := h; omega), HKV.out, HW.out.1.trans HW2.out.1 (fun _ _ h => h), HW2.out.2⟩
      · have htl : tooLong s.most l = true := by unfold tooLong; rw [decide_eq_true (by omega)]; rfl
        have HTL := Lib.hid htl
        clear htl
        have j1 : (s.most : Int) + 1 < (l.length : Int) := by omega
        clear HIX
        generalize mk l = b at *
        obtain ⟨m, hm'⟩ : ∃ m, l.length = m := ⟨_, rfl⟩
        rw [hm'] at hzl j1
        clear hm' hb1 hb2 hb3 hb4 hgt
        go_wp2_with (first
          | (go_at_call 15; refine HC.out.mono ?_; rintro e1 w1 ⟨rfl, rfl⟩)
          | (go_at_call 18; refine HE.out.mono ?_; rintro e2 w2 ⟨rfl, hw2⟩; have HW2 := Lib.hid hw2; clear hw2))
        go_ret2
        rw [HE0.out, HO0.out, HS0.out]
        simp only [pre, List.append_nil, Bool.false_eq_true, if_false, HTL.out, if_true]
        exact ⟨.slice Av o.length cv, rfl, HV.out.only HW2.out.1 (fun k hk h => by have := HKV.out k hk; have h : k = p := h; omega), HKV.out, HW.out.1.trans HW2.out.1 (fun _ _ h => h), HW2.out.2⟩
end Go.Proofs.Ythgjfdjjnkgicaa
