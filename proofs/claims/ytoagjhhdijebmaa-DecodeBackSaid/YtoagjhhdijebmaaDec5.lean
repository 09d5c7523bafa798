/-
  The contracts of the decoder's Write, Close and Text; no condition beyond those that each theorem states.
-/
import Derived.Test.YtoagjhhdijebmaaDec4
namespace Go.Proofs.Ytoagjhhdijebmaa
open Go.RowKit Go.Rb
attribute [local irreducible] Go.wpQuiet

theorem settle_cl (all : Bool) (s : DS) : (settleS all s).closed = s.closed := by unfold settleS; split; rfl; split <;> rfl
theorem take_wf (all : Bool) (s : DS) (h : WfS s) : WfS (takeS all s).2 := by
  have := settle_wf all s h
  unfold takeS
  split
  · exact this
  · exact this
theorem take_cl (all : Bool) (s : DS) : (takeS all s).2.closed = s.closed := by
  have := settle_cl all s
  unfold takeS
  split <;> exact this
theorem take_len (all : Bool) (s : DS) : (takeS all s).2.held.length ≤ s.held.length ∧ (takeS all s).1.length ≤ 4 * s.held.length := by
  have h := settle_len all s
  unfold takeS
  split
  · have hd := D_len (settleS all s).kind all _ (settleS all s).held (Nat.le_refl _)
    exact ⟨by simp only; omega, by simp only; omega⟩
  · exact ⟨h, by simp⟩
def wrS (s : DS) (x : List UInt8) : List UInt8 × DS := takeS false { s with held := s.held ++ x }
theorem one_bytes (l : List UInt8) : ∀ u ∈ l.map bV, u.oneCell' = true := by intro u hu; simp only [List.mem_map] at hu; obtain ⟨x, -, rfl⟩ := hu; rfl
set_option maxRecDepth 20000 in
set_option maxHeartbeats 8000000 in
theorem dwrite_any {p : Nat} {s : DS} (x : List UInt8) (A : Option Addr) (n c B : Nat) (w : World) (h : Rep w p s) (hr : Rd w B 1 A n (x.map bV)) (hB : B ≤ w.heap.size) (hcl : s.closed = false) (hwf : WfS s) (hl : s.held.length + n ≤ 50000) :
    Calls Try.prog 9 #[pp p, .slice A n c] w fun e w' => e = .returned (.string ⟨(wrS s x).1.toArray⟩) ∧ Went w p (wrS s x).2 w' := by
  obtain ⟨i0, hi0, hz0, hz1, hz2⟩ := info_parts bInfo
  have hpl := h.lt
  have hxl : x.length = n := by simpa using hr.1
  have HT := Lib.hid (fun (W : World) (h : Rep W p { s with held := s.held ++ x }) => take_any false W h hwf (by show (s.held ++ x).length ≤ _; rw [List.length_append, hxl]; omega))
  obtain ⟨v, hb, hv⟩ := h
  obtain ⟨A0, c0', rfl, hc, -⟩ := hv.len_
  have c3 := hb.cell 3
  have c2 := hb.cell 2
  simp only [List.getElem?_toArray, List.getElem?_cons_zero, List.getElem?_cons_succ] at c3 c2
  rw [hcl] at c3
  obtain ⟨R, hR⟩ : ∃ R, wrS s x = R := ⟨_, rfl⟩
  rw [show takeS false { s with held := s.held ++ x } = R from hR] at HT
  rw [hR]
  have HBK := Lib.hid hb
  have HV := Lib.hid hv
  have HX := Lib.hid hr
  have HXL := Lib.hid hxl
  obtain ⟨m, hm⟩ : ∃ m, s.held.length = m := ⟨_, rfl⟩
  have HM := Lib.hid hm
  have HH0 := Lib.hid (one_bytes s.held)
  have HH1 := Lib.hid (one_bytes x)
  have HBW := Lib.hid hB
  rw [hm] at HBK HV c2 hl hc
  clear hb hv hr hR hcl hwf hxl hm hB
  obtain ⟨H, hH⟩ : ∃ H, w.heap.size = H := ⟨_, rfl⟩
  have HHH := Lib.hid hH
  have h63a : 0 + m ≤ maxLen := by simp only [maxLen]; omega
  have h63b : 0 + m + n ≤ maxLen := by simp only [maxLen]; omega
  have H63a := Lib.hid h63a
  have H63b := Lib.hid h63b
  clear hH h63a h63b
  unfold pp at HT ⊢
  go_enter Try.func9, Try.ntmps9
  go_wp2_with (first
    | (at_builtin; have tok1 : True := trivial; go_loud (refine wpList_append_rd _ rfl (.tmp 10) (.tmp 14) _ rfl 5 i0 _ 1 1 Try.underlying22 hi0 hz0 hz1 hz2 rfl (by omega) (.slice (some ⟨w.heap.size, 0, none⟩) 0 0) 0 [] rfl (by exact Own.lit w 5 1 0 #[] rfl (by decide)) _ A0 m c0' (s.held.map bV) rfl (by exact HV.out.rd.below (below_al (Below.refl _ w) _)) HH0.out H63a.out (by omega) _ rfl ?_; intro v1 w1 hown1 hgrow1 hat1; have HB1 := Lib.hid (Below.grown (below_al (Below.refl _ w) (.cells #[] 5)) hgrow1 (by simp) (by simp [Value.ownBlock])); have HK1 : Hid (∀ k, v1.ownBlock = some k → w.heap.size ≤ k) := (fun k hk => by rcases hat1 with h | h; (have := h.symm.trans hk; simp [Value.ownBlock] at this; omega); (have := h.symm.trans hk; simp at this; omega)); have HO1 := Lib.hid hown1; clear hown1 hgrow1 hat1))
    | (at_builtin; go_loud (refine wpList_append_rd _ rfl (.tmp 15) (.tmp 16) _ rfl 5 i0 _ 1 1 Try.underlying22 hi0 hz0 hz1 hz2 rfl (by omega) v1 (0 + m) ([] ++ s.held.map bV) rfl (by exact HO1.out) B A n c (x.map bV) rfl (by exact HX.out.below (HB1.out.mono HBW.out)) HH1.out H63b.out (by omega) _ rfl ?_; intro v2 w2 hown2 hgrow2 hat2; have HB2 := Lib.hid (Below.grown HB1.out hgrow2 HB1.out.size (fun k hk => HK1.out k hk)); have HO2 := Lib.hid hown2; have HBK2 := Lib.hid (HBK.out.below HB2.out hpl); obtain ⟨A2, c2', rfl, -, -⟩ := hown2.len_; have d2 : w2.cell? ⟨p, 2, none⟩ = some (.slice A0 m c0') := (by rw [HBK2.out.cell]; rfl); have e2 := HBK2.out.frozen 2; clear hown2 hgrow2 hat2)))
  have hrep : Rep (w2.setCell ⟨p, 2, none⟩ (.slice A2 (m + n) c2')) p { s with held := s.held ++ x } := by
    have ho := HO2.out
    rw [List.nil_append, ← List.map_append, show 0 + m + n = (s.held ++ x).length by rw [List.length_append, HM.out, HXL.out]; omega] at ho
    have e : (s.held ++ x).length = m + n := by rw [List.length_append, HM.out, HXL.out]
    rw [e] at ho
    refine ⟨.slice A2 (m + n) c2', ?_, ?_⟩
    · have := HBK2.out.set_ 2 (.slice A2 (m + n) c2')
      simpa using this
    · show Own _ _ _ _ (s.held ++ x).length _
      rw [e]
      exact ho.setCell (p := ⟨p, 2, none⟩) (own_ne_blk' ho HBK2.out (by decide)) _
  refine (HT.out _ hrep).mono ?_
  rintro e3 w3 ⟨rfl, hw3⟩
  have HW3 := Lib.hid hw3
  clear hw3 hrep
  go_wp2_with fail
  go_ret
  exact ⟨rfl, ((only_below HB2.out).setCell (p := ⟨p, 2, none⟩) (fun _ => rfl) _).trans HW3.out.1 (fun _ _ h => h), HW3.out.2.rep⟩
set_option maxRecDepth 20000 in
set_option maxHeartbeats 4000000 in
theorem dclose_any {p : Nat} {s : DS} (w : World) (h : Rep w p s) (hcl : s.closed = false) (hwf : WfS s) (hl : s.held.length ≤ 50000) :
    Calls Try.prog 18 #[pp p] w fun e w' => e = .returned (.string ⟨(takeS true s).1.toArray⟩) ∧ Only (fun k => k = p) w w' := by
  have hpl := h.lt
  have HT := Lib.hid (take_any true w h hwf (by omega))
  obtain ⟨v, hb, hv⟩ := h
  have c3 := hb.cell 3
  simp only [List.getElem?_toArray, List.getElem?_cons_zero, List.getElem?_cons_succ] at c3
  rw [hcl] at c3
  obtain ⟨R, hR⟩ : ∃ R, takeS true s = R := ⟨_, rfl⟩
  rw [hR] at HT ⊢
  clear hb hv hR hcl hwf
  unfold pp at HT ⊢
  go_enter Try.func18, Try.ntmps18
  go_wp2_with (go_at_call 17; refine HT.out.mono ?_; rintro e1 w1 ⟨rfl, hw1⟩; have HO1 := Lib.hid hw1.1; obtain ⟨v1, hb1, -, -⟩ := hw1.2; have d3 := hb1.cell 3; simp only [List.getElem?_toArray, List.getElem?_cons_zero, List.getElem?_cons_succ] at d3; have f3 := hb1.frozen 3; clear hw1 hb1)
  go_ret
  exact ⟨rfl, HO1.out.setCell (p := ⟨p, 3, none⟩) (fun _ => rfl) _⟩
def textD (k : Int) (x : List UInt8) : List UInt8 := (takeS false ⟨k, !decide (k = 0), x, false⟩).1 ++ (takeS true (takeS false ⟨k, !decide (k = 0), x, false⟩).2).1
theorem new_wf (k : Int) (x : List UInt8) (h1 : 0 ≤ k) (h2 : k ≤ 3) : WfS ⟨k, !decide (k = 0), x, false⟩ := fun h => by
  simp at h
  show k = 1 ∨ k = 2 ∨ k = 3
  omega
set_option maxRecDepth 20000 in
set_option maxHeartbeats 4000000 in
theorem dtext_ok (k : Int) (x : List UInt8) (A : Option Addr) (n c : Nat) (w : World) (h1 : 0 ≤ k) (h2 : k ≤ 3) (hr : Rd w w.heap.size 1 A n (x.map bV)) (hn : n ≤ 10000) :
    Calls Try.prog 13 #[.int .i64 k, .slice A n c] w fun e w' => e = .returned (.string ⟨(textD k x).toArray⟩) ∧ Below w.heap.size w w' := by
  have hxl : x.length = n := by simpa using hr.1
  have HN := Lib.hid (new_ok k w h1 h2)
  have HW := Lib.hid (fun (p : Nat) (W : World) (h : Rep W p ⟨k, !decide (k = 0), [], false⟩) (hB : Below w.heap.size w W) => dwrite_any x A n c w.heap.size W h (hr.below hB) hB.size rfl (new_wf k [] h1 h2) (by simp; omega))
  have e : wrS ⟨k, !decide (k = 0), [], false⟩ x = takeS false ⟨k, !decide (k = 0), x, false⟩ := by unfold wrS; simp
  rw [e] at HW
  have hwf := take_wf false _ (new_wf k x h1 h2)
  have hcl := take_cl false ⟨k, !decide (k = 0), x, false⟩
  have hln := take_len false ⟨k, !decide (k = 0), x, false⟩
  have hln2 := (take_len true (takeS false ⟨k, !decide (k = 0), x, false⟩).2).2
  unfold textD
  generalize takeS false ⟨k, !decide (k = 0), x, false⟩ = R at *
  obtain ⟨o1, S1⟩ := R
  simp only at HW hwf hcl hln hln2 ⊢
  have HC := Lib.hid (fun (p : Nat) (W : World) (h : Rep W p S1) => dclose_any W h hcl hwf (by omega))
  obtain ⟨o2, ho2⟩ : ∃ o, (takeS true S1).1 = o := ⟨_, rfl⟩
  rw [ho2] at HC hln2
  have hz1 : (⟨o1.toArray⟩ : ByteArray).size = o1.length := rfl
  have hz2 : (⟨o2.toArray⟩ : ByteArray).size = o2.length := rfl
  have HCAT := Lib.hid (cat_ o1 o2)
  have l1 : o1.length ≤ 40000 := by omega
  have l2 : o2.length ≤ 40000 := by omega
  rw [ho2]
  clear hr e hwf hcl hln hln2 ho2 hxl h1 h2
  generalize (⟨o1.toArray⟩ : ByteArray) = s1 at *
  generalize (⟨o2.toArray⟩ : ByteArray) = s2 at *
  generalize o1.length = n1 at *
  generalize o2.length = n2 at *
  unfold pp at HN HW HC
  go_enter Try.func13, Try.ntmps13
  go_wp2_with (first
    | (go_at_call 8; refine HN.out.mono ?_; rintro e1 w1 ⟨rfl, hb1, hr1, hsz⟩; have HB1 := Lib.hid hb1; have HR1 := Lib.hid (And.intro hr1 hsz); clear hb1 hr1 hsz)
    | (go_at_call 9; refine (HW.out _ _ HR1.out.1 HB1.out).mono ?_; rintro e2 w2 ⟨rfl, hw2⟩; have HO2 := Lib.hid hw2.1; have HR2 := Lib.hid hw2.2; clear hw2)
    | (go_at_call 18; refine (HC.out _ _ HR2.out).mono ?_; rintro e3 w3 ⟨rfl, hw3⟩; have HO3 := Lib.hid hw3; clear hw3))
  go_ret
  refine ⟨by rw [← HCAT.out]; rfl, ?_⟩
  have key := (Only.of_below HB1.out).trans (HO2.out.trans HO3.out (fun _ _ h => h)) (fun k hk h => by have h : k = w.heap.size := h; show w.heap.size ≤ k; omega)
  exact key.below (Nat.le_refl _) (fun k h => h)
set_option maxHeartbeats 1000000 in
theorem dtext_bad (k : Int) (v : Value) (w : World) (h : k < 0 ∨ 3 < k) :
    Calls Try.prog 13 #[.int .i64 k, v] w fun e w' => e = .returned (.string ⟨#[]⟩) ∧ w = w' := by
  have HN := Lib.hid (new_bad k w h)
  clear h
  go_enter Try.func13, Try.ntmps13
  go_wp2_with (go_at_call 8; refine HN.out.mono ?_; rintro e1 w1 ⟨rfl, rfl⟩)
  go_ret
  exact ⟨rfl, rfl⟩
end Go.Proofs.Ytoagjhhdijebmaa
