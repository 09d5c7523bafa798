/-
  The contracts of the pipe's functions Withdraw and Items, and of slices.Clone; no condition beyond those that each theorem states.
-/
import Derived.Test.YtfndppjicneliaaPipe6
namespace Go.Proofs.Ytfndppjicneliaa
open Go.RowKit Go.Rb
attribute [local irreducible] Go.wpQuiet

theorem RepA.cutOf {w w' : World} {S : Nat → Prop} {p g off cap off' n' cap' : Nat} {iv : Value} {s : PS} (h : RepA w S p iv (.slice (some ⟨g, off, none⟩) s.ofs.length cap) s) (hO : Only (fun k => k = g) w w') (ofs' : List Of)
    (ho : Own w' 64 8 (.slice (some ⟨g, off', none⟩) n' cap') n' (ocs ofs')) (hn : ofs'.length = n') :
    w'.cell? ⟨p, 2, none⟩ = some (.slice (some ⟨g, off, none⟩) s.ofs.length cap) ∧ w'.frozen? ⟨p, 2, none⟩ = false ∧ w'.cell? ⟨p, 4, none⟩ = some (.int .i64 s.sent) ∧ Hid (RepA (w'.setCell ⟨p, 2, none⟩ (.slice (some ⟨g, off', none⟩) n' cap')) S p iv (.slice (some ⟨g, off', none⟩) n' cap') { s with ofs := ofs' }) := by
  subst hn
  have hpg : p ≠ g := fun e => own_ne_blk h.oo h.pb (by decide) (by rw [e]; rfl)
  have hpb := h.pb.only hO hpg
  have hio := h.io.only hO (fun k hk e => own_ne' h.io h.oo (by decide) k hk (by rw [e]; rfl))
  refine ⟨by rw [hpb.cell]; rfl, hpb.frozen 2, by rw [hpb.cell]; rfl, ?_⟩
  have hsg : S g := h.so g rfl
  exact ⟨by simpa using hpb.set_ 2 _, hio.setCell (p := ⟨p, 2, none⟩) (own_ne_blk hio hpb (by decide)) _, ho.setCell (p := ⟨p, 2, none⟩) (own_ne_blk ho hpb (by decide)) _, h.sp, h.si, fun k hk => by simp [Value.ownBlock] at hk; rw [← hk]; exact hsg, fun k hk => by simp [World.setCell]; exact Nat.lt_of_lt_of_le (h.lt k hk) hO.size⟩

theorem atI_cases (l : List Of) (who : Int) : (atI l who = -1 ∧ ∀ o ∈ l, o.1 ≠ who) ∨ ∃ i : Nat, i < l.length ∧ atI l who = (i : Int) := by
  unfold atI
  cases h : l.findIdx? (fun o => decide (o.1 = who)) with
  | none =>
    left
    rw [List.findIdx?_eq_none_iff] at h
    exact ⟨rfl, fun o ho => by simpa using h o ho⟩
  | some i =>
    right
    rw [List.findIdx?_eq_some_iff_getElem] at h
    exact ⟨i, h.1, rfl⟩
def wdS (s : PS) (who : Int) : PS := if waitsO s who then { s with ofs := s.ofs.eraseIdx (atI s.ofs who).toNat, sent := s.sent - 1 } else s

set_option maxHeartbeats 4000000 in
theorem withdraw_any {S : Nat → Prop} {p : Nat} {s : PS} (who : Int) (w : World) (hR : Rep w S p s) (h2 : s.ofs.length ≤ 1000000) (h3 : -1000000 ≤ s.sent ∧ s.sent ≤ 1000000) :
    Calls Try.prog 13 #[pp p, .int .i64 who] w fun e w' => e = .returned (.bool (waitsO s who)) ∧ Went w S p (wdS s who) w' := by
  have HA := Lib.hid (at_any who w hR h2)
  have HR := Lib.hid hR
  unfold wdS waitsO
  rcases atI_cases s.ofs who with ⟨e, -⟩ | ⟨i, hi, e⟩
  · rw [e] at HA ⊢
    clear hR
    have e1 : decide ((0 : Int) ≤ -1) = false := rfl
    rw [e1]
    unfold pp at HA ⊢
    go_enter Try.func13, Try.ntmps13
    go_wp2_with (go_at_call 26; refine HA.out.mono ?_; rintro e1 w1 ⟨rfl, hb1⟩; have HB1 := Lib.hid hb1; clear hb1)
    go_ret
    obtain ⟨iv, ov, h⟩ := HR.out
    exact ⟨rfl, (Went.of (Only.refl _ _) (h.below HB1.out)).from (Only.of_below HB1.out |>.mono (fun k hk hh => by omega))⟩
  · rw [e] at HA ⊢
    have e1 : decide ((0 : Int) ≤ (i : Int)) = true := decide_eq_true (by omega)
    rw [e1, Int.toNat_natCast]
    simp only [if_pos]
    obtain ⟨iv, ov, h⟩ := hR
    obtain ⟨g, off, cap, rfl, hcap, hg, -⟩ := h.oat hi
    obtain ⟨m, hm⟩ : ∃ m, s.ofs.length = m + 1 := ⟨s.ofs.length - 1, by omega⟩
    have hle : (s.ofs.eraseIdx i).length = m := by rw [List.length_eraseIdx, if_pos hi]; omega
    have key : Hid (∀ w1, Below w.heap.size w w1 → w1.cell? ⟨p, 2, none⟩ = some (.slice (some ⟨g, off, none⟩) (m + 1) cap) ∧
        Calls Try.prog 27 #[.slice (some ⟨g, off, none⟩) (m + 1) cap, .int .i64 (i : Int), .int .i64 ((i : Int) + 1)] w1 fun e w2 => e = .returned (.slice (some ⟨g, off, none⟩) m cap) ∧
          w2.cell? ⟨p, 2, none⟩ = some (.slice (some ⟨g, off, none⟩) (m + 1) cap) ∧ w2.frozen? ⟨p, 2, none⟩ = false ∧ w2.cell? ⟨p, 4, none⟩ = some (.int .i64 s.sent) ∧ w2.frozen? ⟨p, 4, none⟩ = false ∧
          Hid (Went w S p { s with ofs := s.ofs.eraseIdx i, sent := s.sent - 1 } ((w2.setCell ⟨p, 2, none⟩ (.slice (some ⟨g, off, none⟩) m cap)).setCell ⟨p, 4, none⟩ (.int .i64 (s.sent - 1))))) := by
      intro w1 hb
      have h1 := h.below hb
      refine ⟨by rw [h1.c2, hm], (delete_any w1 g off cap i m s.ofs (by rw [← hm]; exact h1.oo) hm (by omega) (by omega)).mono ?_⟩
      rintro e' w2 ⟨rfl, hO, how⟩
      obtain ⟨c2, f2, c4, hr⟩ := h1.cutOf hO _ how hle
      have hpg : p ≠ g := fun e => own_ne_blk h1.oo h1.pb (by decide) (by rw [e]; rfl)
      refine ⟨rfl, by rw [c2, hm], f2, c4, (h1.pb.only hO hpg).frozen 4, ?_⟩
      have h5 := hr.out.setSent (s.sent - 1)
      have hO2 : Only S w w2 := ((Only.of_below hb).mono (fun k hk hh => by omega)).trans hO fun k hk hh => by have hh : k = g := hh; rw [hh]; exact h.so g rfl
      exact Went.of (((hO2.setCell (p := ⟨p, 2, none⟩) (fun _ => h.sp) _).setCell (p := ⟨p, 4, none⟩) (fun _ => h.sp) _)) h5
    clear h HR hm hle
    unfold pp at HA ⊢
    go_enter Try.func13, Try.ntmps13
    go_wp2_with (first
      | (go_at_call 26; refine HA.out.mono ?_; rintro e1 w1 ⟨rfl, hb1⟩; obtain ⟨c2, HDC⟩ := key.out _ hb1; have HDD := Lib.hid HDC; clear HDC hb1)
      | (go_at_call 27; refine HDD.out.mono ?_; rintro e2 w2 ⟨rfl, c22, f22, c42, f42, HWW⟩))
    go_ret
    exact ⟨rfl, HWW.out⟩

theorem ics_one (l : List It) : ∀ u ∈ ics l, u.oneCell' = true := fun u hu => by
  obtain ⟨o, ho, hu⟩ := List.mem_flatMap.1 hu
  simp [It.cs] at hu
  rcases hu with rfl | rfl | rfl | rfl | rfl | rfl | rfl <;> rfl
set_option maxHeartbeats 1000000 in
theorem clone_any (A : Option Addr) (n c B : Nat) (l : List It) (w : World) (hr : Rd w B 7 A n (ics l)) (hl : l.length = n) (hn : n ≤ 1000000) (hB : B ≤ w.heap.size) :
    Calls Try.prog 25 #[.slice A n c] w fun e w' => ∃ v, e = .returned v ∧ Own w' 34 7 v n (ics l) ∧ Below w.heap.size w w' ∧ ∀ k, v.ownBlock = some k → w.heap.size ≤ k := by
  obtain ⟨i0, hi0, hz0, hz1, hz2⟩ := info_parts infoI
  have q22 : ∀ (w : World) (a : Option Addr) (n c n' c' : Nat), (binOp .eql 37 (.slice a n c) (.slice none n' c')).run Try.prog w = .ok (.bool a.isNone) w := fun w a n c n' c' => Lib.run_eql_slice_nil w _ _ a n c n' c' Try.underlying37
  have HR := Lib.hid hr
  have HL := Lib.hid hl
  clear hl
  have h63 : 0 + n ≤ maxLen := by simp only [maxLen]; omega
  have H63 := Lib.hid h63
  clear h63
  cases A with
  | none =>
    have h0 : n = 0 := by
      rcases Nat.eq_zero_or_pos n with h0 | h0
      · exact h0
      · obtain ⟨b, o, h, _⟩ := hr.2 h0
        simp at h
    subst h0
    obtain rfl : l = [] := List.eq_nil_of_length_eq_zero HL.out
    clear hr
    go_enter Try.func25, Try.ntmps25
    go_wp2
    go_ret
    exact ⟨_, rfl, Own.nil_ _ _ _, Below.refl _ _, by simp [Value.ownBlock]⟩
  | some a =>
    clear hr
    go_enter Try.func25, Try.ntmps25
    go_wp2_with (at_builtin; refine wpList_append_rd _ rfl (.tmp 5) (.tmp 6) _ rfl 34 i0 _ 7 80 Try.underlying37 hi0 hz0 hz1 hz2 rfl (by omega) (.slice (some ⟨w.heap.size, 0, none⟩) 0 0) 0 [] rfl (by exact Own.lit w 34 7 0 #[] rfl (by decide)) B (some a) n c (ics l) rfl (by exact HR.out.below ((below_al (Below.refl _ _) _).mono hB)) (ics_one l) H63.out (by omega) _ rfl ?_; intro v1 w1 hown1 hgrow1 hat1)
    go_ret
    refine ⟨_, rfl, ?_, Below.grown (below_al (Below.refl _ w) _) hgrow1 (by simp) (by simp [Value.ownBlock]), ?_⟩
    · simpa using hown1
    · intro k hk
      rcases hat1 with h | h
      · have h' := h.symm.trans hk
        have : w.heap.size = k := by simpa [Value.ownBlock] using h'
        omega
      · have h' := h.symm.trans hk
        have : w.heap.size + 1 = k := by simpa using h'
        omega
def itemsO (s : PS) : List It := s.inn ++ s.ofs.map (·.2)
theorem itemsO_len (s : PS) : (itemsO s).length = s.inn.length + s.ofs.length := by simp [itemsO]
theorem map_take_succ {l : List Of} {i : Nat} (hi : i < l.length) : (l.take (i + 1)).map (·.2) = (l.take i).map (·.2) ++ [l[i].2] := by
  rw [List.take_add_one, List.getElem?_eq_getElem hi, List.map_append]; rfl
set_option maxHeartbeats 4000000 in
theorem items_any {S : Nat → Prop} {p : Nat} {s : PS} (w : World) (hR : Rep w S p s) (h1 : s.inn.length ≤ 1000000) (h2 : s.ofs.length ≤ 1000000) :
    Calls Try.prog 11 #[pp p] w fun e w' => ∃ v, e = .returned v ∧ Own w' 34 7 v (s.inn.length + s.ofs.length) (ics (itemsO s)) ∧ Below w.heap.size w w' ∧ ∀ k, v.ownBlock = some k → w.heap.size ≤ k := by
  obtain ⟨i0, hi0, hz0, hz1, hz2⟩ := info_parts infoI
  obtain ⟨iv, ov, h⟩ := hR
  have c1 := h.c1
  obtain ⟨A1, cp1, rfl, -, -⟩ := h.io.len_
  obtain ⟨A2, cp2, rfl, -, -⟩ := h.oo.len_
  have HC := Lib.hid (clone_any A1 s.inn.length cp1 w.heap.size s.inn w h.io.rd rfl h1 (Nat.le_refl _))
  have HH := Lib.hid h
  clear h
  unfold pp
  go_enter Try.func11, Try.ntmps11
  go_wp2_with (go_at_call 25; refine HC.out.mono ?_; rintro e1 w1 ⟨v1, rfl, ho1, hb1, hk1⟩; have c2 := (HH.out.below hb1).c2; have HB1 := Lib.hid hb1; have HO1 := Lib.hid ho1; have HK1 := Lib.hid hk1; clear hb1 ho1 hk1)
  go_loopw [3, 16] (fun v jv wr => ∃ i : Nat, i ≤ s.ofs.length ∧ jv = .int .i64 i ∧ Own wr 34 7 v (s.inn.length + i) (ics (s.inn ++ (s.ofs.take i).map (·.2))) ∧ Hid (∀ k, v.ownBlock = some k → w.heap.size ≤ k) ∧ Below w.heap.size w wr) (fun _ jv _ => s.ofs.length - (intOf jv).toNat)
  case atStart => exact ⟨0, by omega, rfl, by simpa using HO1.out, HK1.out, HB1.out⟩
  case round =>
    obtain ⟨i, hi, rfl, hv, hkv, hbw⟩ := hrel
    obtain ⟨Av, cv, rfl, -, -⟩ := hv.len_
    have HB := Lib.hid hbw
    have HV := Lib.hid hv
    clear c2 HB1 HO1 HK1
    by_cases hlt : i < s.ofs.length
    · have i1 : (i : Int) < (s.ofs.length : Int) := by omega
      have hh := HH.out.below hbw
      obtain ⟨gl, ol, cl', e, -, -, kk⟩ := hh.oat hlt
      simp only [Value.slice.injEq] at e
      obtain ⟨rfl, -, rfl⟩ := e
      have HNX : Hid (ics (s.inn ++ (s.ofs.take (i + 1)).map (·.2)) = ics (s.inn ++ (s.ofs.take i).map (·.2)) ++ It.cs s.ofs[i].2) := by
        show _ = _
        rw [map_take_succ hlt, ← List.append_assoc, ics_append]
        simp [ics]
      have k0 := kk 0 (by omega); have k1 := kk 1 (by omega); have k2 := kk 2 (by omega); have k3 := kk 3 (by omega); have k4 := kk 4 (by omega); have k5 := kk 5 (by omega); have k6 := kk 6 (by omega); have k7 := kk 7 (by omega)
      clear hh hbw kk hv
      generalize s.ofs[i] = o at *
      obtain ⟨x, n, buf, rn, ra, rt, ha, hn', hcp, err⟩ := o
      simp only [ofc, It.cs, List.getElem?_cons_zero, List.getElem?_cons_succ, Nat.add_zero] at k0 k1 k2 k3 k4 k5 k6 k7 HNX
      generalize ics (s.inn ++ (s.ofs.take i).map (·.2)) = xs at *
      go_wp2_with (at_builtin; refine wpList_append_mine _ rfl (.tmp 20) (.tmp 23) _ rfl 34 i0 _ 7 80 Try.underlying37 hi0 hz0 hz1 hz2 rfl (by omega) (.slice Av (s.inn.length + i) cv) (s.inn.length + i) xs rfl (by exact (HV.out.alloc _).alloc _) _ 1 1 [.int .i64 n, .int .i64 buf, .int .i64 rn, .int .i64 ra, .string rt, .slice ha hn' hcp, .int .i64 err] rfl rfl (by exact news_pushs rfl (by simp)) (by simp [Value.oneCell']) (by omega) (by simp only [maxLen]; omega) (by omega) _ rfl ?_; intro g6 o6 c6 w6 hown6 hgrow6 hat6; have HO6 := Lib.hid hown6; have HB6 := Lib.hid (Below.grown ((HB.out.alloc HB.out.size _).alloc (Nat.le_trans HB.out.size (by simp)) _) hgrow6 (by simp; have := HB.out.size; omega) hkv.out); have HK6 : Hid (w.heap.size ≤ g6) := (by show _ ≤ _; rcases hat6 with h | h; exact hkv.out _ h; rw [h]; have := HB.out.size; simp; omega); clear hown6 hgrow6 hat6)
      go_roundw
      case rel => exact ⟨i + 1, by omega, by go_num, by rw [HNX.out]; exact HO6.out, fun k hk => by simp [Value.ownBlock] at hk; rw [← hk]; exact HK6.out, HB6.out⟩
      case measure => simp [intOf]; omega
    · have e : i = s.ofs.length := by omega
      have i1 : ¬ (i : Int) < (s.ofs.length : Int) := by omega
      have HF : Hid (Own wr 34 7 (.slice Av (s.inn.length + i) cv) (s.inn.length + s.ofs.length) (ics (itemsO s))) := by
        have := HV.out
        rw [e] at this ⊢
        rw [List.take_length] at this
        exact this
      clear hv hbw e
      go_wp2_with fail
      go_ret
      exact ⟨_, rfl, HF.out, HB.out, hkv.out⟩
end Go.Proofs.Ytfndppjicneliaa
