/-
  The contract of End; no condition beyond those that each theorem states.
-/
import Derived.Test.YtbgmdjceecbbhaaDoorMode13
namespace Go.Proofs.YtbgmdjceecbbhaaDoor
open Go.RowKit Go.Rb
attribute [local irreducible] Go.wpQuiet

def ended (s : Ts) : Ts := { s with over := true, held := [] }
def cline (s : Ts) : List UInt8 := Lib.itoa s.records ++ [32] ++ Lib.itoa s.hits
theorem end_tr {w : World} {p : Nat} {s : Ts} {hv : Value} (h : Tr w p s hv) : Tr ((w.setCell ⟨p, 9, none⟩ (.bool true)).setCell ⟨p, 5, none⟩ (.slice none 0 0)) p (ended s) (.slice none 0 0) :=
  ⟨(h.1.set_ 9 (.bool true)).set_ 5 (.slice none 0 0), Own.nil_ _ _ _⟩
set_option maxRecDepth 20000 in
set_option maxHeartbeats 400000 in
theorem end_none (s : Ts) (p : Nat) (hv : Value) (w : World) (h : Tr w p s hv) (ho : s.over = true ∨ s.tell ≠ 2) :
    Calls Tryd.prog 13 #[pp p] w fun e w' => e = .returned (.slice none 0 0) ∧ Tr w' p (ended s) (.slice none 0 0) ∧ Only (fun k => k = p) w w' := by
  have HTE := Lib.hid (end_tr h)
  have HON : Hid (Only (fun k => k = p) w ((w.setCell ⟨p, 9, none⟩ (.bool true)).setCell ⟨p, 5, none⟩ (.slice none 0 0))) := ((Only.refl (fun k => k = p) w).setCell (p := ⟨p, 9, none⟩) (fun _ => rfl) (.bool true)).setCell (p := ⟨p, 5, none⟩) (fun _ => rfl) (.slice none 0 0)
  have c9 := h.1.cell 9
  have c5 := h.1.cell 5
  have c0 := h.1.cell 0
  have z9 := h.1.frozen 9
  have z5 := h.1.frozen 5
  simp only [tsc, List.getElem?_toArray, List.getElem?_cons_succ, List.getElem?_cons_zero] at c9 c5 c0
  generalize ended s = se at *
  obtain ⟨b, hb⟩ : ∃ b, s.over = b := ⟨_, rfl⟩
  obtain ⟨T, hT⟩ : ∃ b, s.tell = b := ⟨_, rfl⟩
  rw [hb] at c9 ho
  rw [hT] at c0 ho
  clear hb hT h
  unfold pp
  cases b with
  | true =>
    clear ho
    go_enter Tryd.func13, Tryd.ntmps13
    go_wp2_with fail
    go_ret
    exact ⟨rfl, HTE.out, HON.out⟩
  | false =>
    have F1 : (T != 2) = true := by rcases ho with h | h; exact absurd h (by decide); exact bne_iff_ne.2 h
    clear ho
    go_enter Tryd.func13, Tryd.ntmps13
    go_wp2_with fail
    go_ret
    exact ⟨rfl, HTE.out, HON.out⟩
set_option maxRecDepth 20000 in
set_option maxHeartbeats 400000 in
theorem end_count (s : Ts) (p : Nat) (hv : Value) (w : World) (h : Tr w p s hv) (hTb : Tb w) (hp : 0 < p) (ho : s.over = false) (ht : s.tell = 2) (hr : I64 s.records) (hh : I64 s.hits) :
    Calls Tryd.prog 13 #[pp p] w fun e w' => ∃ v, e = .returned v ∧ Own w' 9 1 v 1 (lns [cline s]) ∧ (∀ k, v.ownBlock = some k → w.heap.size ≤ k) ∧ Tr w' p (ended s) (.slice none 0 0) ∧ Only (fun k => k = p) w w' := by
  have HTE := Lib.hid (end_tr h)
  have HON : Hid (Only (fun k => k = p) w ((w.setCell ⟨p, 9, none⟩ (.bool true)).setCell ⟨p, 5, none⟩ (.slice none 0 0))) := ((Only.refl (fun k => k = p) w).setCell (p := ⟨p, 9, none⟩) (fun _ => rfl) (.bool true)).setCell (p := ⟨p, 5, none⟩) (fun _ => rfl) (.slice none 0 0)
  have HT1 := Lib.hid (hTb.only HON.out (by omega))
  have c9 := h.1.cell 9
  have c5 := h.1.cell 5
  have c0 := h.1.cell 0
  have z9 := h.1.frozen 9
  have z5 := h.1.frozen 5
  have HC34 : Hid (∀ W, Tr W p (ended s) (.slice none 0 0) → W.cell? ⟨p, 3, none⟩ = some (.int .i64 s.records) ∧ W.cell? ⟨p, 4, none⟩ = some (.int .i64 s.hits)) := fun W h => ⟨h.1.cell 3, h.1.cell 4⟩
  simp only [tsc, List.getElem?_toArray, List.getElem?_cons_succ, List.getElem?_cons_zero, ho, ht] at c9 c5 c0
  have hlv : mk (Lib.itoa s.records) ++ ⟨#[32]⟩ ++ mk (Lib.itoa s.hits) = mk (cline s) := by rw [show (⟨#[32]⟩ : ByteArray) = mk [32] from rfl, mk_append, mk_append]; rfl
  have hnr : ∀ W, Tb W → Calls Tryd.prog 22 #[.int .i64 s.records] W fun e w' => e = .returned (.string (mk (Lib.itoa s.records))) ∧ Below W.heap.size W w' := fun W h => number_any s.records hr W h
  have hnt : ∀ W, Tb W → Calls Tryd.prog 22 #[.int .i64 s.hits] W fun e w' => e = .returned (.string (mk (Lib.itoa s.hits))) ∧ Below W.heap.size W w' := fun W h => number_any s.hits hh W h
  have hns : (mk (Lib.itoa s.records)).size ≤ 20 := itoa_len s.records hr
  have hms : (mk (Lib.itoa s.hits)).size ≤ 20 := itoa_len s.hits hh
  generalize ended s = se at *
  generalize cline s = ln at *
  generalize mk (Lib.itoa s.records) = NS at *
  generalize mk (Lib.itoa s.hits) = MS at *
  obtain ⟨R, hR⟩ : ∃ b, s.records = b := ⟨_, rfl⟩
  obtain ⟨T, hT⟩ : ∃ b, s.hits = b := ⟨_, rfl⟩
  rw [hR] at HC34 hnr
  rw [hT] at HC34 hnt
  have HNR := Lib.hid hnr
  have HNT := Lib.hid hnt
  have HLV := Lib.hid hlv
  clear hnr hnt hlv hR hT h ho ht hr hh hTb
  unfold pp
  go_enter Tryd.func13, Tryd.ntmps13
  go_wp2_with fail
  generalize (w.setCell ⟨p, 9, none⟩ (.bool true)).setCell ⟨p, 5, none⟩ (.slice none 0 0) = W4 at *
  obtain ⟨y3, y4⟩ := HC34.out _ HTE.out.drew
  have hg4 : p < W4.drew.heap.size := HTE.out.1.lt
  have HT4 := Lib.hid HT1.out.drew
  refine region_tail 13 (by kernel_rfl) (by kernel_rfl) (fun W W' => Below W.heap.size W W')
    [.val (.pointer (some ⟨p, 0, none⟩)),
     .val (.pointer (some ⟨p, 0, none⟩)),
     .val (.pointer (some ⟨p, 3, none⟩)),
     .val (.int .i64 R),
     .val (.string NS),
     .val (.string (NS ++ ⟨#[32]⟩)),
     .val (.pointer (some ⟨p, 0, none⟩)),
     .val (.pointer (some ⟨p, 0, none⟩)),
     .val (.pointer (some ⟨p, 4, none⟩)),
     .val (.int .i64 T),
     .val (.string MS),
     .val (.string ((NS ++ ⟨#[32]⟩) ++ MS)),
     newsRow2 W4.drew.heap.size (.string ((NS ++ ⟨#[32]⟩) ++ MS))]
    (fun W => Below.refl _ W) (fun _ _ _ h k => below_trans h k) (by kernel_rfl) ?_ ?_
  · refine ⟨?_, ?_, ?_, ?_, ?_, ?_, ?_, ?_, ?_, ?_, ?_, ?_, ?_, trivial⟩
    · intro ra RW hR hk hd K hK
      obtain ⟨e0, g0⟩ := hk 0 (.pointer (some ⟨p, 0, none⟩)) (by kernel_rfl) rfl
      clear hk hd
      have HR := Lib.hid hR
      clear hR
      go_simp
      exact hK _ _ (Below.refl _ _) rfl
    · intro ra RW hR hk hd K hK
      obtain ⟨v22, e22, g22, f22⟩ := hd 0 22 (by kernel_rfl) rfl
      have f22 : v22 = .pointer (some ⟨p, 0, none⟩) := f22
      subst f22
      clear hk hd
      have HR := Lib.hid hR
      clear hR
      go_simp
      exact hK _ _ (Below.refl _ _) rfl
    · intro ra RW hR hk hd K hK
      obtain ⟨v23, e23, g23, f23⟩ := hd 1 23 (by kernel_rfl) rfl
      have f23 : v23 = .pointer (some ⟨p, 0, none⟩) := f23
      subst f23
      clear hk hd
      have HR := Lib.hid hR
      clear hR
      go_simp
      exact hK _ _ (Below.refl _ _) rfl
    · intro ra RW hR hk hd K hK
      obtain ⟨v24, e24, g24, f24⟩ := hd 2 24 (by kernel_rfl) rfl
      have f24 : v24 = .pointer (some ⟨p, 3, none⟩) := f24
      subst f24
      clear hk hd
      have HR := Lib.hid hR
      clear hR
      have dd0 := (HR.out.cell (p := ⟨p, 3, none⟩) hg4).trans y3
      go_simp
      exact hK _ _ (Below.refl _ _) rfl
    · intro ra RW hR hk hd K hK
      obtain ⟨v25, e25, g25, f25⟩ := hd 3 25 (by kernel_rfl) rfl
      have f25 : v25 = .int .i64 R := f25
      subst f25
      clear hk hd
      have HR := Lib.hid hR
      clear hR
      go_simp
      refine (HNR.out RW (HT4.out.below' HR.out)).mono ?_
      rintro e w2 ⟨rfl, hb2⟩
      exact hK _ _ hb2 rfl
    · intro ra RW hR hk hd K hK
      obtain ⟨v26, e26, g26, f26⟩ := hd 4 26 (by kernel_rfl) rfl
      have f26 : v26 = .string NS := f26
      subst f26
      clear hk hd
      have HR := Lib.hid hR
      clear hR
      go_simp
      rw [if_neg (by omega)]
      go_simp
      exact hK _ _ (Below.refl _ _) rfl
    · intro ra RW hR hk hd K hK
      obtain ⟨e0, g0⟩ := hk 0 (.pointer (some ⟨p, 0, none⟩)) (by kernel_rfl) rfl
      clear hk hd
      have HR := Lib.hid hR
      clear hR
      go_simp
      exact hK _ _ (Below.refl _ _) rfl
    · intro ra RW hR hk hd K hK
      obtain ⟨v28, e28, g28, f28⟩ := hd 6 28 (by kernel_rfl) rfl
      have f28 : v28 = .pointer (some ⟨p, 0, none⟩) := f28
      subst f28
      clear hk hd
      have HR := Lib.hid hR
      clear hR
      go_simp
      exact hK _ _ (Below.refl _ _) rfl
    · intro ra RW hR hk hd K hK
      obtain ⟨v29, e29, g29, f29⟩ := hd 7 29 (by kernel_rfl) rfl
      have f29 : v29 = .pointer (some ⟨p, 0, none⟩) := f29
      subst f29
      clear hk hd
      have HR := Lib.hid hR
      clear hR
      go_simp
      exact hK _ _ (Below.refl _ _) rfl
    · intro ra RW hR hk hd K hK
      obtain ⟨v30, e30, g30, f30⟩ := hd 8 30 (by kernel_rfl) rfl
      have f30 : v30 = .pointer (some ⟨p, 4, none⟩) := f30
      subst f30
      clear hk hd
      have HR := Lib.hid hR
      clear hR
      have dd0 := (HR.out.cell (p := ⟨p, 4, none⟩) hg4).trans y4
      go_simp
      exact hK _ _ (Below.refl _ _) rfl
    · intro ra RW hR hk hd K hK
      obtain ⟨v31, e31, g31, f31⟩ := hd 9 31 (by kernel_rfl) rfl
      have f31 : v31 = .int .i64 T := f31
      subst f31
      clear hk hd
      have HR := Lib.hid hR
      clear hR
      go_simp
      refine (HNT.out RW (HT4.out.below' HR.out)).mono ?_
      rintro e w2 ⟨rfl, hb2⟩
      exact hK _ _ hb2 rfl
    · intro ra RW hR hk hd K hK
      obtain ⟨v27, e27, g27, f27⟩ := hd 5 27 (by kernel_rfl) rfl
      have f27 : v27 = .string (NS ++ ⟨#[32]⟩) := f27
      subst f27
      obtain ⟨v32, e32, g32, f32⟩ := hd 10 32 (by kernel_rfl) rfl
      have f32 : v32 = .string MS := f32
      subst f32
      clear hk hd
      have HR := Lib.hid hR
      clear hR
      go_simp
      rw [if_neg (by omega)]
      go_simp
      exact hK _ _ (Below.refl _ _) rfl
    · intro ra RW hR hk hd K hK
      obtain ⟨v33, e33, g33, f33⟩ := hd 11 33 (by kernel_rfl) rfl
      have f33 : v33 = .string ((NS ++ ⟨#[32]⟩) ++ MS) := f33
      subst f33
      clear hk hd
      have HR := Lib.hid hR
      clear hR
      go_simp
      exact hK _ _ (below_al (Below.refl _ _) _) (newsRow2_mk _ _ HR.out.size)
  intro vs RW hR hF
  have q0 : vs 0 = .pointer (some ⟨p, 0, none⟩) := hF 0 (by decide)
  have q1 : vs 1 = .pointer (some ⟨p, 0, none⟩) := hF 1 (by decide)
  have q2 : vs 2 = .pointer (some ⟨p, 3, none⟩) := hF 2 (by decide)
  have q3 : vs 3 = .int .i64 R := hF 3 (by decide)
  have q4 : vs 4 = .string NS := hF 4 (by decide)
  have q5 : vs 5 = .string (NS ++ ⟨#[32]⟩) := hF 5 (by decide)
  have q6 : vs 6 = .pointer (some ⟨p, 0, none⟩) := hF 6 (by decide)
  have q7 : vs 7 = .pointer (some ⟨p, 0, none⟩) := hF 7 (by decide)
  have q8 : vs 8 = .pointer (some ⟨p, 4, none⟩) := hF 8 (by decide)
  have q9 : vs 9 = .int .i64 T := hF 9 (by decide)
  have q10 : vs 10 = .string MS := hF 10 (by decide)
  have q11 : vs 11 = .string ((NS ++ ⟨#[32]⟩) ++ MS) := hF 11 (by decide)
  have F34 := Lib.hid (hF 12 (by decide))
  simp only [List.take_succ_cons, List.take_zero, List.drop_succ_cons, List.drop_zero, setAll, List.setIfInBounds_toArray, List.set_cons_zero, List.set_cons_succ, q0, q1, q2, q3, q4, q5, q6, q7, q8, q9, q10, q11]
  clear hF q0 q1 q2 q3 q4 q5 q6 q7 q8 q9 q10 q11
  generalize vs 12 = v34 at *
  clear vs
  have HRW := Lib.hid hR
  clear hR
  obtain ⟨g42, rfl, hnw, hng⟩ := F34.out
  have HNW := Lib.hid hnw
  clear hnw
  go_wp2_with fail
  go_ret
  have hsz := HON.out.size
  have hszw := HRW.out.size
  refine ⟨_, rfl, ?_, ?_, HTE.out.drew.below HRW.out (Nat.le_refl _), HON.out.drew.trans (Only.of_below HRW.out) (fun k hk h => by have h : W4.drew.heap.size ≤ k := h; have : w.heap.size ≤ W4.drew.heap.size := hsz; omega)⟩
  · have := own_one HNW.out
    rw [HLV.out] at this
    exact this
  · intro k hk
    obtain rfl : g42 = k := Option.some.inj hk
    have hng : W4.drew.heap.size ≤ g42 := hng
    have : w.heap.size ≤ W4.drew.heap.size := hsz
    omega
end Go.Proofs.YtbgmdjceecbbhaaDoor
