/-
  The walk of reedbedlaw06.PoolRound: it returns true; no condition beyond those that each theorem states.
-/
import Derived.Test.YtmebpalfjcejoaaRound0
import Derived.Test.YtmebpalfjcejoaaRegion2
import Derived.Test.YtmebpalfjcejoaaPieces
namespace Go.Proofs.Ytmebpalfjcejoaa
open Go.RowKit Go.Rb

theorem push_new {B n off c g : Nat} {w : World} {l : Value} {o : Obj} (h : ∀ q, l.ownBlock = some q → B ≤ q) (hB : B ≤ w.heap.size) (hat : l.ownBlock = some g ∨ g = (w.alloc o).heap.size) :
    ∀ q, (Value.slice (some ⟨g, off, none⟩) n c).ownBlock = some q → B ≤ q := by
  intro q hq
  have e : g = q := by simpa [Value.ownBlock] using hq
  subst e
  rcases hat with h' | h'
  · exact h _ h'
  · rw [h']; simp; omega
theorem push_own {w : World} {v : Value} {n : Nat} {H : List Nat} {x : Nat} (hl : H.length = n) (h : Own w 3 1 v (n + 1) (H.map nV ++ [.int .i64 (x : Int)])) : Own w 3 1 v (n + 1) ((H ++ [x]).map nV) := by
  simpa [nV] using h

set_option maxRecDepth 20000 in
set_option maxHeartbeats 8000000 in
theorem round_small (a : Int) (vs0 : List Value) (ps : List (List UInt8)) (A : Option Addr) (m c : Nat) (w : World) (ha0 : 0 ≤ a) (ha1 : a ≤ 255) (hr : Rd w w.heap.size 1 A m vs0) (hp : PR w w.heap.size vs0 ps) (hm : m ≤ 60) :
    Calls Try.prog 4 #[.int .u8 a, .slice A m c] w fun e w' => e = .returned (.bool true) ∧ Below w.heap.size w w' := by
  obtain ⟨i0, hi0, hz0, hz1, hz2⟩ := info_parts info3
  have hA : Hid (∀ w, Calls Try.prog 8 #[] w fun e w' => e = .returned (.bool true) ∧ Below w.heap.size w w') := awake_any
  have hpl : ps.length = m := by rw [← hp.1]; simpa using hr.1
  obtain ⟨K, hK1, hK2, hK⟩ : ∃ K : Nat, 1 ≤ K ∧ K ≤ 8 ∧ 1 + a % 8 = (K : Int) := ⟨(1 + a % 8).toNat, by omega, by omega, by omega⟩
  have hN : Hid (∀ W, Below w.heap.size w W → Calls Try.prog 9 #[.int .i64 (K : Int), .int .i64 64] W fun e w' => ∃ p, e = .returned (.tuple #[.pointer (some ⟨p, 0, none⟩), .int .i64 0]) ∧ Below W.heap.size W w' ∧ In w.heap.size NoT w' p (newS K 64)) :=
    fun W hW => new_in (B := w.heap.size) K 64 W NoT (fun _ h => h.elim) (by omega) (by omega) (by omega) (by omega) hW.size
  have HR := Lib.hid hr; have HP := Lib.hid hp; have HL := Lib.hid hpl
  clear hr hp hpl
  have i1 : (m : Int) ≤ 60 := by omega
  go_enter Try.func4, Try.ntmps4
  go_wp2_with (first
    | (go_at_call 9; refine (hN.out _ HB1.out).mono ?_; rintro e2 w2 ⟨p, rfl, hb2, hi2⟩; have HB2 := Lib.hid (below_trans HB1.out hb2); have HI2 := Lib.hid hi2; clear hb2 hi2)
    | (go_at_call 8; refine (hA.out _).mono ?_; rintro e1 w1 ⟨rfl, hb1⟩; have HB1 := Lib.hid hb1; clear hb1))
  clear HB1 hN hK
  go_loopw [8, 9] (fun l i wr => ∃ (j : Nat) (s : PS) (H : List Nat), j ≤ m ∧ i = .int .i64 j ∧ RoundInv K s H ∧ Below w.heap.size w wr ∧ Own wr 3 1 l H.length (H.map nV) ∧ (∀ q, l.ownBlock = some q → w.heap.size ≤ q) ∧
        In w.heap.size (fun q => l.ownBlock = some q) wr p s) (fun _ i _ => m - (intOf i).toNat)
  case atStart =>
    refine ⟨0, _, [], by omega, rfl, RoundInv.init K, HB2.out, Own.nil_ _ _ _, by simp [Value.ownBlock], ?_⟩
    exact HI2.out.frame (U := NoT) (Only.refl _ _) (fun _ h => h.elim) (fun _ h => by simp [Value.ownBlock] at h)
  case round =>
    obtain ⟨j, s, H, hj, rfl, hinv, hbw, hown, hnew, hin⟩ := hrel
    obtain ⟨A1, c1, rfl, hc1, -⟩ := hown.len_
    have HO0 := Lib.hid hown; have HI0 := Lib.hid hin; have HB0 := Lib.hid hbw; have HN0 := Lib.hid hnew
    clear hown hin hnew
    have hHK : H.length ≤ K := by have := hinv.len; simp at this; omega
    by_cases hjm : j < m
    · obtain ⟨bb, oo, rfl, hbb, hcell⟩ := HR.out.2 (by omega)
      have i5 : (j : Int) < (m : Int) := by omega
      have cj1 := hcell j (by omega)
      obtain ⟨Aj, cj, hvj, hcj, hrj⟩ := HP.out.2 j (by rw [HL.out]; omega)
      rw [hvj] at cj1
      have cj2 := (hbw.cell (p := ⟨bb, oo + j, none⟩) hbb).trans cj1
      have HRJ := Lib.hid hrj
      clear hcell cj1 hvj hrj hbw
      have hFr : ∀ (T : Nat → Prop) W s, In w.heap.size T W p s → s.ln.length ≤ 64 → Calls Try.prog 14 #[.pointer (some ⟨p, 0, none⟩)] W (RetNewI W (s.ln.map (fun k : Nat => (k : Int)))) := fun T W s hi hl => free_in hi (by omega)
      generalize hHl : H.length = hn at *
      generalize ps.getD j [] = b0 at *
      by_cases h64 : 64 < b0.length
      ·
        obtain ⟨b, hb⟩ : ∃ b, b = b0.take 64 := ⟨_, rfl⟩
        have hbl : b.length = 64 := by rw [hb, List.length_take]; omega
        have HRb : Hid (Rd w w.heap.size 1 Aj 64 (b.map bV)) := by
          have := HRJ.out.take_ (k := 64) (by omega)
          show Rd _ _ _ _ _ _
          rw [hb, List.map_take]
          exact this
        have i64 : (64 : Int) < (b0.length : Int) := by omega
        have j64 : 64 ≤ cj := by omega
        clear hb HRJ
        generalize b0.length = n0 at *
        by_cases hfull : hn = K
        · have hfull' : ((hn : Int) == (K : Int)) = true := by simp; omega
          obtain ⟨g, off, cp, hA1, -, -, -, hc0, -⟩ := HO0.out.form (by omega)
          simp only [Value.slice.injEq, true_and] at hA1
          obtain ⟨rfl, rfl⟩ := hA1
          cases H with
          | nil => simp at hHl; omega
          | cons x0 H' =>
            have c00 := hc0 0 (by omega)
            simp only [List.map_cons, List.getElem?_cons_zero, nV, Nat.add_zero] at c00
            obtain ⟨hinv', hE0, hO0⟩ := hinv.drop
            have hln0 : s.ln.length = 0 := by have := hinv.len; simp at this hHl; omega
            have hD := drop_in (x0 : Int) HI0.out (by rw [hO0]; omega) (by omega)
            rw [hE0] at hD
            unfold pp at hD
            have htl := HO0.out.tail_ 1 (by omega)
            obtain ⟨hn', hnn⟩ : ∃ hn', hn - 1 = hn' := ⟨_, rfl⟩
            obtain ⟨c', hcc⟩ : ∃ c', c1 - 1 = c' := ⟨_, rfl⟩
            rw [hnn, hcc] at htl
            have hHl' : H'.length = hn' := by simp at hHl; omega
            generalize dropS s (x0 : Int) = s2 at *
            have HD := Lib.hid hD; have HTL := Lib.hid htl; have HNW := Lib.hid (show ∀ q, (Value.slice (some ⟨g, off, none⟩) hn c1).ownBlock = some q → w.heap.size ≤ q from HN0.out)
            clear hD htl hc0 hinv hE0 hO0 hln0
            have hinv := hinv'
            clear hinv'
            have hHl := hHl'
            have j1 : 1 ≤ hn := by omega
            have j2 : (1 : Int) ≤ (hn : Int) := by omega
            clear hfull
            by_cases hc1 : c1 = 1
            · subst hc1
              have hcz : c' = 0 := by omega
              subst hcz
              clear hcc
              go_wp2_with (go_at_call 11; refine HD.out.mono ?_; rintro e3 w3 ⟨rfl, hd3⟩; have HOT : Own w3 3 1 (.slice (some ⟨g, off, none⟩) hn' 0) hn' (H'.map nV) := (by have h := HTL.out.only hd3.2 (fun kk hk h => h.2 (by simpa [Value.ownBlock] using hk)); simpa using h); have HBW := Lib.hid (HB0.out.trans (hd3.below HI0.out.1)); have HI3 := Lib.hid hd3.1; clear hd3)
              have HO := Lib.hid HOT
              clear HOT
              have HIN : Hid (In w.heap.size (fun q => (Value.slice (some ⟨g, off, none⟩) hn' 0).ownBlock = some q) w3 p s2) := HI3.out
              have HNW : Hid (∀ q, (Value.slice (some ⟨g, off, none⟩) hn' 0).ownBlock = some q → w.heap.size ≤ q) := HNW.out
              obtain ⟨x, t, hl⟩ : ∃ x t, s2.ln = x :: t := by
                cases hs : s2.ln with
                | nil => have := hinv.len; rw [hs] at this; simp at this; omega
                | cons x t => exact ⟨x, t, rfl⟩
              obtain ⟨hX, hE, hO1, hFE, hO2, hinv2⟩ := hinv.take hl b (by omega)
              have hT := take_in HIN.out (fun q hq => by rw [hinv.n]; exact hinv.lt q (by simp [hq]))
              rw [hX, hE] at hT
              unfold pp at hT
              obtain ⟨F, hF⟩ : ∃ F, (fillS (takeS s2) (x : Int) b).ln.length = F := ⟨_, rfl⟩
              have hF2 : hn' + 1 + F = K := by have := hinv2.len; simp at this; omega
              have k6 : ((hn' : Int) + 1 + (F : Int) != (K : Int)) = false := by simp; omega
              have k7 : F ≤ 8 := by omega
              have k8 : hn' ≤ 8 := by omega
              have HT := Lib.hid hT; have HX1 := Lib.hid hO1; have HX2 := Lib.hid hFE; have HX3 := Lib.hid hO2; have HINV := Lib.hid hinv2; have HLL := Lib.hid hF; have HL6 : Hid ((fillS (takeS s2) (x : Int) b).ln.length ≤ 64) := by show _ ≤ _; omega
              clear hT hO1 hFE hO2 hinv2 hX hE hl hinv hF hF2
              refine HT.out.mono ?_
              rintro e4 w4 ⟨rfl, hd4⟩
              have HO4 := Lib.hid (HO.out.only hd4.2 (fun kk hk h => h.2 hk)); have HB4 := Lib.hid (HBW.out.trans (hd4.below HIN.out.1)); have HI4 := Lib.hid hd4.1
              clear hd4 HT
              go_wp2
              refine region_objs (by kernel_rfl) (fun _ _ => True)
                [.val (.int .i64 0),
                 .val (.bool false),
                 .val (.bool false),
                 .val (.pointer (some ⟨p, 0, none⟩)),
                 .val (.int .i64 (x : Int)),
                 .val (.string ⟨#[]⟩),
                 .val (.bool false),
                 .val (.bool false),
                 .val (.bool false),
                 .val (.pointer (some ⟨p, 0, none⟩)),
                 .val (.int .i64 (x : Int)),
                 .val (.slice Aj 64 cj),
                 .val (.int .i64 0),
                 .val (.bool false),
                 .val (.bool false),
                 .val (.bool false),
                 .val (.pointer (some ⟨p, 0, none⟩)),
                 .val (.int .i64 (x : Int)),
                 .val (.string ⟨b.toArray⟩),
                 .val (.slice Aj 64 cj),
                 .val (.string ⟨b.toArray⟩),
                 .val (.bool false),
                 .val (.bool false)]
                (⟨12, fun W => In w.heap.size (fun q => (Value.slice (some ⟨g, off, none⟩) hn' 0).ownBlock = some q) W p (takeS s2) ∧ Own W 3 1 (.slice (some ⟨g, off, none⟩) hn' 0) hn' (H'.map nV) ∧ Below w.heap.size w W, fun W => In w.heap.size (fun q => (Value.slice (some ⟨g, off, none⟩) hn' 0).ownBlock = some q) W p (fillS (takeS s2) (x : Int) b) ∧ Own W 3 1 (.slice (some ⟨g, off, none⟩) hn' 0) hn' (H'.map nV) ∧ Below w.heap.size w W⟩) (⟨12, fun _ => True, fun _ => True⟩) (fun _ => trivial) (fun _ _ _ _ _ => trivial) (by kernel_rfl) (⟨HI4.out.drewN 1, HO4.out.drewN 1, below_drewN HB4.out 1⟩) (trivial) ⟨Nat.le_of_ble_eq_true rfl, Nat.le_of_ble_eq_true rfl⟩ ?_ ?_
              · refine ⟨?_, ?_, ?_, ?_, ?_, ?_, ?_, ?_, ?_, ?_, ?_, ?_, ?_, ?_, ?_, ?_, ?_, ?_, ?_, ?_, ?_, ?_, ?_, trivial⟩
                · intro ra RW hR hsA hsB hk hd K hK
                  have SA := Lib.hid hsA
                  have SB := Lib.hid hsB
                  clear hsA hsB
                  obtain ⟨e12, g12⟩ := hk 12 (.int .i64 0) (by kernel_rfl) rfl
                  clear hk hd
                  have HR := Lib.hid hR
                  clear hR
                  go_simp
                  exact hK _ _ (trivial) rfl (SA.out.same (Nat.ne_of_beq_eq_false rfl)) (SB.out.same (Nat.ne_of_beq_eq_false rfl))
                · intro ra RW hR hsA hsB hk hd K hK
                  have SA := Lib.hid hsA
                  have SB := Lib.hid hsB
                  clear hsA hsB
                  obtain ⟨v65, e65, g65, f65⟩ := hd 0 65 (by kernel_rfl) rfl
                  have f65 : v65 = .int .i64 0 := f65
                  subst f65
                  clear hk hd
                  have HR := Lib.hid hR
                  clear hR
                  go_simp
                  exact hK _ _ (trivial) rfl (SA.out.same (Nat.ne_of_beq_eq_false rfl)) (SB.out.same (Nat.ne_of_beq_eq_false rfl))
                · intro ra RW hR hsA hsB hk hd K hK
                  have SA := Lib.hid hsA
                  have SB := Lib.hid hsB
                  clear hsA hsB
                  obtain ⟨v66, e66, g66, f66⟩ := hd 1 66 (by kernel_rfl) rfl
                  have f66 : v66 = .bool false := f66
                  subst f66
                  clear hk hd
                  have HR := Lib.hid hR
                  clear hR
                  go_simp
                  exact hK _ _ (trivial) rfl (SA.out.same (Nat.ne_of_beq_eq_false rfl)) (SB.out.same (Nat.ne_of_beq_eq_false rfl))
                · intro ra RW hR hsA hsB hk hd K hK
                  have SA := Lib.hid hsA
                  have SB := Lib.hid hsB
                  clear hsA hsB
                  obtain ⟨e6, g6⟩ := hk 6 (.pointer (some ⟨p, 0, none⟩)) (by kernel_rfl) rfl
                  obtain ⟨v67, e67, g67, f67⟩ := hd 2 67 (by kernel_rfl) rfl
                  have f67 : v67 = .bool false := f67
                  subst f67
                  clear hk hd
                  have HR := Lib.hid hR
                  clear hR
                  go_simp
                  exact hK _ _ (trivial) rfl (SA.out.same (Nat.ne_of_beq_eq_false rfl)) (SB.out.same (Nat.ne_of_beq_eq_false rfl))
                · intro ra RW hR hsA hsB hk hd K hK
                  have SA := Lib.hid hsA
                  have SB := Lib.hid hsB
                  clear hsA hsB
                  obtain ⟨e11, g11⟩ := hk 11 (.int .i64 (x : Int)) (by kernel_rfl) rfl
                  obtain ⟨v67, e67, g67, f67⟩ := hd 2 67 (by kernel_rfl) rfl
                  have f67 : v67 = .bool false := f67
                  subst f67
                  clear hk hd
                  have HR := Lib.hid hR
                  clear hR
                  go_simp
                  exact hK _ _ (trivial) rfl (SA.out.same (Nat.ne_of_beq_eq_false rfl)) (SB.out.same (Nat.ne_of_beq_eq_false rfl))
                · intro ra RW hR hsA hsB hk hd K hK
                  have SA := Lib.hid hsA
                  have SB := Lib.hid hsB
                  clear hsA hsB
                  obtain ⟨v68, e68, g68, f68⟩ := hd 3 68 (by kernel_rfl) rfl
                  have f68 : v68 = .pointer (some ⟨p, 0, none⟩) := f68
                  subst f68
                  obtain ⟨v69, e69, g69, f69⟩ := hd 4 69 (by kernel_rfl) rfl
                  have f69 : v69 = .int .i64 (x : Int) := f69
                  subst f69
                  obtain ⟨v67, e67, g67, f67⟩ := hd 2 67 (by kernel_rfl) rfl
                  have f67 : v67 = .bool false := f67
                  subst f67
                  clear hk hd
                  have HR := Lib.hid hR
                  clear hR
                  go_simp
                  refine (octets_in (x : Int) (SA.out.early (by kernel_rfl)).1).mono ?_
                  rintro e w2 ⟨rfl, rfl⟩
                  rw [HX1.out]
                  exact hK _ _ trivial rfl (SA.out.same (Nat.ne_of_beq_eq_false rfl)) (SB.out.same (Nat.ne_of_beq_eq_false rfl))
                · intro ra RW hR hsA hsB hk hd K hK
                  have SA := Lib.hid hsA
                  have SB := Lib.hid hsB
                  clear hsA hsB
                  obtain ⟨v70, e70, g70, f70⟩ := hd 5 70 (by kernel_rfl) rfl
                  have f70 : v70 = .string ⟨#[]⟩ := f70
                  subst f70
                  obtain ⟨v67, e67, g67, f67⟩ := hd 2 67 (by kernel_rfl) rfl
                  have f67 : v67 = .bool false := f67
                  subst f67
                  clear hk hd
                  have HR := Lib.hid hR
                  clear hR
                  go_simp
                  exact hK _ _ (trivial) rfl (SA.out.same (Nat.ne_of_beq_eq_false rfl)) (SB.out.same (Nat.ne_of_beq_eq_false rfl))
                · intro ra RW hR hsA hsB hk hd K hK
                  have SA := Lib.hid hsA
                  have SB := Lib.hid hsB
                  clear hsA hsB
                  obtain ⟨v67, e67, g67, f67⟩ := hd 2 67 (by kernel_rfl) rfl
                  have f67 : v67 = .bool false := f67
                  subst f67
                  obtain ⟨v71, e71, g71, f71⟩ := hd 6 71 (by kernel_rfl) rfl
                  have f71 : v71 = .bool false := f71
                  subst f71
                  clear hk hd
                  have HR := Lib.hid hR
                  clear hR
                  go_simp
                  exact hK _ _ (trivial) rfl (SA.out.same (Nat.ne_of_beq_eq_false rfl)) (SB.out.same (Nat.ne_of_beq_eq_false rfl))
                · intro ra RW hR hsA hsB hk hd K hK
                  have SA := Lib.hid hsA
                  have SB := Lib.hid hsB
                  clear hsA hsB
                  obtain ⟨v72, e72, g72, f72⟩ := hd 7 72 (by kernel_rfl) rfl
                  have f72 : v72 = .bool false := f72
                  subst f72
                  clear hk hd
                  have HR := Lib.hid hR
                  clear hR
                  go_simp
                  exact hK _ _ (trivial) rfl (SA.out.same (Nat.ne_of_beq_eq_false rfl)) (SB.out.same (Nat.ne_of_beq_eq_false rfl))
                · intro ra RW hR hsA hsB hk hd K hK
                  have SA := Lib.hid hsA
                  have SB := Lib.hid hsB
                  clear hsA hsB
                  obtain ⟨e6, g6⟩ := hk 6 (.pointer (some ⟨p, 0, none⟩)) (by kernel_rfl) rfl
                  obtain ⟨v73, e73, g73, f73⟩ := hd 8 73 (by kernel_rfl) rfl
                  have f73 : v73 = .bool false := f73
                  subst f73
                  clear hk hd
                  have HR := Lib.hid hR
                  clear hR
                  go_simp
                  exact hK _ _ (trivial) rfl (SA.out.same (Nat.ne_of_beq_eq_false rfl)) (SB.out.same (Nat.ne_of_beq_eq_false rfl))
                · intro ra RW hR hsA hsB hk hd K hK
                  have SA := Lib.hid hsA
                  have SB := Lib.hid hsB
                  clear hsA hsB
                  obtain ⟨e11, g11⟩ := hk 11 (.int .i64 (x : Int)) (by kernel_rfl) rfl
                  obtain ⟨v73, e73, g73, f73⟩ := hd 8 73 (by kernel_rfl) rfl
                  have f73 : v73 = .bool false := f73
                  subst f73
                  clear hk hd
                  have HR := Lib.hid hR
                  clear hR
                  go_simp
                  exact hK _ _ (trivial) rfl (SA.out.same (Nat.ne_of_beq_eq_false rfl)) (SB.out.same (Nat.ne_of_beq_eq_false rfl))
                · intro ra RW hR hsA hsB hk hd K hK
                  have SA := Lib.hid hsA
                  have SB := Lib.hid hsB
                  clear hsA hsB
                  obtain ⟨e10, g10⟩ := hk 10 (.slice Aj 64 cj) (by kernel_rfl) rfl
                  obtain ⟨v73, e73, g73, f73⟩ := hd 8 73 (by kernel_rfl) rfl
                  have f73 : v73 = .bool false := f73
                  subst f73
                  clear hk hd
                  have HR := Lib.hid hR
                  clear hR
                  go_simp
                  exact hK _ _ (trivial) rfl (SA.out.same (Nat.ne_of_beq_eq_false rfl)) (SB.out.same (Nat.ne_of_beq_eq_false rfl))
                · intro ra RW hR hsA hsB hk hd K hK
                  have SA := Lib.hid hsA
                  have SB := Lib.hid hsB
                  clear hsA hsB
                  obtain ⟨v74, e74, g74, f74⟩ := hd 9 74 (by kernel_rfl) rfl
                  have f74 : v74 = .pointer (some ⟨p, 0, none⟩) := f74
                  subst f74
                  obtain ⟨v75, e75, g75, f75⟩ := hd 10 75 (by kernel_rfl) rfl
                  have f75 : v75 = .int .i64 (x : Int) := f75
                  subst f75
                  obtain ⟨v76, e76, g76, f76⟩ := hd 11 76 (by kernel_rfl) rfl
                  have f76 : v76 = .slice Aj 64 cj := f76
                  subst f76
                  obtain ⟨v73, e73, g73, f73⟩ := hd 8 73 (by kernel_rfl) rfl
                  have f73 : v73 = .bool false := f73
                  subst f73
                  clear hk hd
                  have HR := Lib.hid hR
                  clear hR
                  go_simp
                  refine (fill_in (x : Int) Aj 64 cj _ b (SA.out.self rfl).1 (HRb.out.below (SA.out.self rfl).2.2) (SA.out.self rfl).2.2.size).mono ?_
                  rintro e w2 ⟨rfl, hd⟩
                  rw [HX2.out]
                  exact hK _ _ trivial rfl (SideOut.self rfl ⟨hd.1, (SA.out.self rfl).2.1.only hd.2 (fun kk hk h => h.2 hk), (SA.out.self rfl).2.2.trans (hd.below (SA.out.self rfl).1.1)⟩) (SideOut.self rfl trivial)
                · intro ra RW hR hsA hsB hk hd K hK
                  have SA := Lib.hid hsA
                  have SB := Lib.hid hsB
                  clear hsA hsB
                  obtain ⟨v77, e77, g77, f77⟩ := hd 12 77 (by kernel_rfl) rfl
                  have f77 : v77 = .int .i64 0 := f77
                  subst f77
                  obtain ⟨v73, e73, g73, f73⟩ := hd 8 73 (by kernel_rfl) rfl
                  have f73 : v73 = .bool false := f73
                  subst f73
                  clear hk hd
                  have HR := Lib.hid hR
                  clear hR
                  go_simp
                  exact hK _ _ (trivial) rfl (SA.out.same (Nat.ne_of_beq_eq_false rfl)) (SB.out.same (Nat.ne_of_beq_eq_false rfl))
                · intro ra RW hR hsA hsB hk hd K hK
                  have SA := Lib.hid hsA
                  have SB := Lib.hid hsB
                  clear hsA hsB
                  obtain ⟨v73, e73, g73, f73⟩ := hd 8 73 (by kernel_rfl) rfl
                  have f73 : v73 = .bool false := f73
                  subst f73
                  obtain ⟨v78, e78, g78, f78⟩ := hd 13 78 (by kernel_rfl) rfl
                  have f78 : v78 = .bool false := f78
                  subst f78
                  clear hk hd
                  have HR := Lib.hid hR
                  clear hR
                  go_simp
                  exact hK _ _ (trivial) rfl (SA.out.same (Nat.ne_of_beq_eq_false rfl)) (SB.out.same (Nat.ne_of_beq_eq_false rfl))
                · intro ra RW hR hsA hsB hk hd K hK
                  have SA := Lib.hid hsA
                  have SB := Lib.hid hsB
                  clear hsA hsB
                  obtain ⟨v79, e79, g79, f79⟩ := hd 14 79 (by kernel_rfl) rfl
                  have f79 : v79 = .bool false := f79
                  subst f79
                  clear hk hd
                  have HR := Lib.hid hR
                  clear hR
                  go_simp
                  exact hK _ _ (trivial) rfl (SA.out.same (Nat.ne_of_beq_eq_false rfl)) (SB.out.same (Nat.ne_of_beq_eq_false rfl))
                · intro ra RW hR hsA hsB hk hd K hK
                  have SA := Lib.hid hsA
                  have SB := Lib.hid hsB
                  clear hsA hsB
                  obtain ⟨e6, g6⟩ := hk 6 (.pointer (some ⟨p, 0, none⟩)) (by kernel_rfl) rfl
                  obtain ⟨v80, e80, g80, f80⟩ := hd 15 80 (by kernel_rfl) rfl
                  have f80 : v80 = .bool false := f80
                  subst f80
                  clear hk hd
                  have HR := Lib.hid hR
                  clear hR
                  go_simp
                  exact hK _ _ (trivial) rfl (SA.out.same (Nat.ne_of_beq_eq_false rfl)) (SB.out.same (Nat.ne_of_beq_eq_false rfl))
                · intro ra RW hR hsA hsB hk hd K hK
                  have SA := Lib.hid hsA
                  have SB := Lib.hid hsB
                  clear hsA hsB
                  obtain ⟨e11, g11⟩ := hk 11 (.int .i64 (x : Int)) (by kernel_rfl) rfl
                  obtain ⟨v80, e80, g80, f80⟩ := hd 15 80 (by kernel_rfl) rfl
                  have f80 : v80 = .bool false := f80
                  subst f80
                  clear hk hd
                  have HR := Lib.hid hR
                  clear hR
                  go_simp
                  exact hK _ _ (trivial) rfl (SA.out.same (Nat.ne_of_beq_eq_false rfl)) (SB.out.same (Nat.ne_of_beq_eq_false rfl))
                · intro ra RW hR hsA hsB hk hd K hK
                  have SA := Lib.hid hsA
                  have SB := Lib.hid hsB
                  clear hsA hsB
                  obtain ⟨v81, e81, g81, f81⟩ := hd 16 81 (by kernel_rfl) rfl
                  have f81 : v81 = .pointer (some ⟨p, 0, none⟩) := f81
                  subst f81
                  obtain ⟨v82, e82, g82, f82⟩ := hd 17 82 (by kernel_rfl) rfl
                  have f82 : v82 = .int .i64 (x : Int) := f82
                  subst f82
                  obtain ⟨v80, e80, g80, f80⟩ := hd 15 80 (by kernel_rfl) rfl
                  have f80 : v80 = .bool false := f80
                  subst f80
                  clear hk hd
                  have HR := Lib.hid hR
                  clear hR
                  go_simp
                  refine (octets_in (x : Int) (SA.out.late (Nat.ne_of_beq_eq_false rfl) (by kernel_rfl) (by kernel_rfl)).1).mono ?_
                  rintro e w2 ⟨rfl, rfl⟩
                  rw [HX3.out]
                  exact hK _ _ trivial rfl (SA.out.same (Nat.ne_of_beq_eq_false rfl)) (SB.out.same (Nat.ne_of_beq_eq_false rfl))
                · intro ra RW hR hsA hsB hk hd K hK
                  have SA := Lib.hid hsA
                  have SB := Lib.hid hsB
                  clear hsA hsB
                  obtain ⟨e10, g10⟩ := hk 10 (.slice Aj 64 cj) (by kernel_rfl) rfl
                  obtain ⟨v80, e80, g80, f80⟩ := hd 15 80 (by kernel_rfl) rfl
                  have f80 : v80 = .bool false := f80
                  subst f80
                  clear hk hd
                  have HR := Lib.hid hR
                  clear hR
                  go_simp
                  exact hK _ _ (trivial) rfl (SA.out.same (Nat.ne_of_beq_eq_false rfl)) (SB.out.same (Nat.ne_of_beq_eq_false rfl))
                · intro ra RW hR hsA hsB hk hd K hK
                  have SA := Lib.hid hsA
                  have SB := Lib.hid hsB
                  clear hsA hsB
                  obtain ⟨v84, e84, g84, f84⟩ := hd 19 84 (by kernel_rfl) rfl
                  have f84 : v84 = .slice Aj 64 cj := f84
                  subst f84
                  obtain ⟨v80, e80, g80, f80⟩ := hd 15 80 (by kernel_rfl) rfl
                  have f80 : v80 = .bool false := f80
                  subst f80
                  clear hk hd
                  have HR := Lib.hid hR
                  clear hR
                  go_simp
                  rw [conv_rd (HRb.out.below (SA.out.late (Nat.ne_of_beq_eq_false rfl) (by kernel_rfl) (by kernel_rfl)).2.2)]
                  go_simp
                  exact hK _ _ trivial rfl (SA.out.same (Nat.ne_of_beq_eq_false rfl)) (SB.out.same (Nat.ne_of_beq_eq_false rfl))
                · intro ra RW hR hsA hsB hk hd K hK
                  have SA := Lib.hid hsA
                  have SB := Lib.hid hsB
                  clear hsA hsB
                  obtain ⟨v83, e83, g83, f83⟩ := hd 18 83 (by kernel_rfl) rfl
                  have f83 : v83 = .string ⟨b.toArray⟩ := f83
                  subst f83
                  obtain ⟨v85, e85, g85, f85⟩ := hd 20 85 (by kernel_rfl) rfl
                  have f85 : v85 = .string ⟨b.toArray⟩ := f85
                  subst f85
                  obtain ⟨v80, e80, g80, f80⟩ := hd 15 80 (by kernel_rfl) rfl
                  have f80 : v80 = .bool false := f80
                  subst f80
                  clear hk hd
                  have HR := Lib.hid hR
                  clear hR
                  go_simp
                  exact hK _ _ (trivial) rfl (SA.out.same (Nat.ne_of_beq_eq_false rfl)) (SB.out.same (Nat.ne_of_beq_eq_false rfl))
                · intro ra RW hR hsA hsB hk hd K hK
                  have SA := Lib.hid hsA
                  have SB := Lib.hid hsB
                  clear hsA hsB
                  obtain ⟨v80, e80, g80, f80⟩ := hd 15 80 (by kernel_rfl) rfl
                  have f80 : v80 = .bool false := f80
                  subst f80
                  obtain ⟨v86, e86, g86, f86⟩ := hd 21 86 (by kernel_rfl) rfl
                  have f86 : v86 = .bool false := f86
                  subst f86
                  clear hk hd
                  have HR := Lib.hid hR
                  clear hR
                  go_simp
                  exact hK _ _ (trivial) rfl (SA.out.same (Nat.ne_of_beq_eq_false rfl)) (SB.out.same (Nat.ne_of_beq_eq_false rfl))
              intro vs RW hR hpA hpB hF
              have q0 : vs 0 = .int .i64 0 := hF 0 (by decide)
              have q1 : vs 1 = .bool false := hF 1 (by decide)
              have q2 : vs 2 = .bool false := hF 2 (by decide)
              have q3 : vs 3 = .pointer (some ⟨p, 0, none⟩) := hF 3 (by decide)
              have q4 : vs 4 = .int .i64 (x : Int) := hF 4 (by decide)
              have q5 : vs 5 = .string ⟨#[]⟩ := hF 5 (by decide)
              have q6 : vs 6 = .bool false := hF 6 (by decide)
              have q7 : vs 7 = .bool false := hF 7 (by decide)
              have q8 : vs 8 = .bool false := hF 8 (by decide)
              have q9 : vs 9 = .pointer (some ⟨p, 0, none⟩) := hF 9 (by decide)
              have q10 : vs 10 = .int .i64 (x : Int) := hF 10 (by decide)
              have q11 : vs 11 = .slice Aj 64 cj := hF 11 (by decide)
              have q12 : vs 12 = .int .i64 0 := hF 12 (by decide)
              have q13 : vs 13 = .bool false := hF 13 (by decide)
              have q14 : vs 14 = .bool false := hF 14 (by decide)
              have q15 : vs 15 = .bool false := hF 15 (by decide)
              have q16 : vs 16 = .pointer (some ⟨p, 0, none⟩) := hF 16 (by decide)
              have q17 : vs 17 = .int .i64 (x : Int) := hF 17 (by decide)
              have q18 : vs 18 = .string ⟨b.toArray⟩ := hF 18 (by decide)
              have q19 : vs 19 = .slice Aj 64 cj := hF 19 (by decide)
              have q20 : vs 20 = .string ⟨b.toArray⟩ := hF 20 (by decide)
              have q21 : vs 21 = .bool false := hF 21 (by decide)
              have q22 : vs 22 = .bool false := hF 22 (by decide)
              simp only [setAll, List.setIfInBounds_toArray, List.set_cons_zero, List.set_cons_succ, q0, q1, q2, q3, q4, q5, q6, q7, q8, q9, q10, q11, q12, q13, q14, q15, q16, q17, q18, q19, q20, q21, q22]
              clear hF q0 q1 q2 q3 q4 q5 q6 q7 q8 q9 q10 q11 q12 q13 q14 q15 q16 q17 q18 q19 q20 q21 q22
              clear vs
              obtain ⟨hi5, ho5, hb5⟩ := hpA
              have HI5 := Lib.hid hi5; have HO5 := Lib.hid ho5; have HB5 := Lib.hid hb5
              clear hi5 ho5 hb5 hpB hR
              go_wp2_with (first
                | (go_at_call 14; refine (hFr _ _ _ HI6.out HL6.out).mono ?_; rintro e7 w7 ⟨v7, rfl, hnew7⟩; have HB7 := Lib.hid (below_trans HB6.out hnew7.2.1); have HI7 := Lib.hid (HI6.out.below hnew7.2.1); have HO7 := Lib.hid (HO6.out.below hnew7.2.1 fun _ hk => HO6.out.lt hk); obtain ⟨A7, c7, rfl, -⟩ := newI_own hnew7; rw [List.length_map, HLL.out]; clear hnew7)
                | (at_builtin; refine wpList_append_mine _ rfl (.tmp 88) (.tmp 90) _ rfl 3 i0 _ 1 8 Try.underlying30 hi0 hz0 hz1 hz2 rfl (by omega) (.slice (some ⟨g, off, none⟩) hn' 0) hn' (H'.map nV) rfl (by exact HO5.out.alloc _) _ 1 1 [_] rfl rfl (by exact news_push rfl rfl) (by simp [Value.oneCell']) (by omega) (by simp only [maxLen]; omega) (by omega) _ rfl ?_; intro g6 o6 c6 w6 hown6 hgrow6 hat6; have hgl6 : g6 < w6.heap.size := hown6.lt rfl; have HI6 := Lib.hid (HI5.out.push (n := hn' + 1) (off := o6) (c := c6) _ hgrow6 hat6 hgl6); have HB6 := Lib.hid (Below.grown (HB5.out.alloc HB5.out.size _) hgrow6 (by have := HB5.out.size; simp; omega) (fun q hq => HNW.out q hq)); have HN6 := Lib.hid (push_new (off := o6) (n := hn' + 1) (c := c6) HNW.out HB5.out.size hat6); have HO6 := Lib.hid (push_own hHl hown6); clear hown6 hgrow6 hat6))
              go_roundw
              case rel => exact ⟨j + 1, _, H' ++ [x], by omega, by go_num, HINV.out, HB7.out, by rw [List.length_append, hHl]; exact HO7.out, HN6.out, HI7.out⟩
              case measure => simp [intOf]; omega
            · go_wp2_with (go_at_call 11; refine HD.out.mono ?_; rintro e3 w3 ⟨rfl, hd3⟩; have HOT : Own w3 3 1 (.slice (some ⟨g, off + 1, none⟩) hn' c') hn' (H'.map nV) := (by have h := HTL.out.only hd3.2 (fun kk hk h => h.2 (by rw [if_neg hc1] at hk; simpa [Value.ownBlock] using hk)); rw [if_neg hc1] at h; simpa using h); have HBW := Lib.hid (HB0.out.trans (hd3.below HI0.out.1)); have HI3 := Lib.hid hd3.1; clear hd3)
              have HO := Lib.hid HOT
              clear HOT
              have HIN : Hid (In w.heap.size (fun q => (Value.slice (some ⟨g, off + 1, none⟩) hn' c').ownBlock = some q) w3 p s2) := HI3.out
              have HNW : Hid (∀ q, (Value.slice (some ⟨g, off + 1, none⟩) hn' c').ownBlock = some q → w.heap.size ≤ q) := HNW.out
              obtain ⟨x, t, hl⟩ : ∃ x t, s2.ln = x :: t := by
                cases hs : s2.ln with
                | nil => have := hinv.len; rw [hs] at this; simp at this; omega
                | cons x t => exact ⟨x, t, rfl⟩
              obtain ⟨hX, hE, hO1, hFE, hO2, hinv2⟩ := hinv.take hl b (by omega)
              have hT := take_in HIN.out (fun q hq => by rw [hinv.n]; exact hinv.lt q (by simp [hq]))
              rw [hX, hE] at hT
              unfold pp at hT
              obtain ⟨F, hF⟩ : ∃ F, (fillS (takeS s2) (x : Int) b).ln.length = F := ⟨_, rfl⟩
              have hF2 : hn' + 1 + F = K := by have := hinv2.len; simp at this; omega
              have k6 : ((hn' : Int) + 1 + (F : Int) != (K : Int)) = false := by simp; omega
              have k7 : F ≤ 8 := by omega
              have k8 : hn' ≤ 8 := by omega
              have HT := Lib.hid hT; have HX1 := Lib.hid hO1; have HX2 := Lib.hid hFE; have HX3 := Lib.hid hO2; have HINV := Lib.hid hinv2; have HLL := Lib.hid hF; have HL6 : Hid ((fillS (takeS s2) (x : Int) b).ln.length ≤ 64) := by show _ ≤ _; omega
              clear hT hO1 hFE hO2 hinv2 hX hE hl hinv hF hF2
              refine HT.out.mono ?_
              rintro e4 w4 ⟨rfl, hd4⟩
              have HO4 := Lib.hid (HO.out.only hd4.2 (fun kk hk h => h.2 hk)); have HB4 := Lib.hid (HBW.out.trans (hd4.below HIN.out.1)); have HI4 := Lib.hid hd4.1
              clear hd4 HT
              go_wp2
              refine region_objs (by kernel_rfl) (fun _ _ => True)
                [.val (.int .i64 0),
                 .val (.bool false),
                 .val (.bool false),
                 .val (.pointer (some ⟨p, 0, none⟩)),
                 .val (.int .i64 (x : Int)),
                 .val (.string ⟨#[]⟩),
                 .val (.bool false),
                 .val (.bool false),
                 .val (.bool false),
                 .val (.pointer (some ⟨p, 0, none⟩)),
                 .val (.int .i64 (x : Int)),
                 .val (.slice Aj 64 cj),
                 .val (.int .i64 0),
                 .val (.bool false),
                 .val (.bool false),
                 .val (.bool false),
                 .val (.pointer (some ⟨p, 0, none⟩)),
                 .val (.int .i64 (x : Int)),
                 .val (.string ⟨b.toArray⟩),
                 .val (.slice Aj 64 cj),
                 .val (.string ⟨b.toArray⟩),
                 .val (.bool false),
                 .val (.bool false)]
                (⟨12, fun W => In w.heap.size (fun q => (Value.slice (some ⟨g, off + 1, none⟩) hn' c').ownBlock = some q) W p (takeS s2) ∧ Own W 3 1 (.slice (some ⟨g, off + 1, none⟩) hn' c') hn' (H'.map nV) ∧ Below w.heap.size w W, fun W => In w.heap.size (fun q => (Value.slice (some ⟨g, off + 1, none⟩) hn' c').ownBlock = some q) W p (fillS (takeS s2) (x : Int) b) ∧ Own W 3 1 (.slice (some ⟨g, off + 1, none⟩) hn' c') hn' (H'.map nV) ∧ Below w.heap.size w W⟩) (⟨12, fun _ => True, fun _ => True⟩) (fun _ => trivial) (fun _ _ _ _ _ => trivial) (by kernel_rfl) (⟨HI4.out.drewN 1, HO4.out.drewN 1, below_drewN HB4.out 1⟩) (trivial) ⟨Nat.le_of_ble_eq_true rfl, Nat.le_of_ble_eq_true rfl⟩ ?_ ?_
              · refine ⟨?_, ?_, ?_, ?_, ?_, ?_, ?_, ?_, ?_, ?_, ?_, ?_, ?_, ?_, ?_, ?_, ?_, ?_, ?_, ?_, ?_, ?_, ?_, trivial⟩
                · intro ra RW hR hsA hsB hk hd K hK
                  have SA := Lib.hid hsA
                  have SB := Lib.hid hsB
                  clear hsA hsB
                  obtain ⟨e12, g12⟩ := hk 12 (.int .i64 0) (by kernel_rfl) rfl
                  clear hk hd
                  have HR := Lib.hid hR
                  clear hR
                  go_simp
                  exact hK _ _ (trivial) rfl (SA.out.same (Nat.ne_of_beq_eq_false rfl)) (SB.out.same (Nat.ne_of_beq_eq_false rfl))
                · intro ra RW hR hsA hsB hk hd K hK
                  have SA := Lib.hid hsA
                  have SB := Lib.hid hsB
                  clear hsA hsB
                  obtain ⟨v65, e65, g65, f65⟩ := hd 0 65 (by kernel_rfl) rfl
                  have f65 : v65 = .int .i64 0 := f65
                  subst f65
                  clear hk hd
                  have HR := Lib.hid hR
                  clear hR
                  go_simp
                  exact hK _ _ (trivial) rfl (SA.out.same (Nat.ne_of_beq_eq_false rfl)) (SB.out.same (Nat.ne_of_beq_eq_false rfl))
                · intro ra RW hR hsA hsB hk hd K hK
                  have SA := Lib.hid hsA
                  have SB := Lib.hid hsB
                  clear hsA hsB
                  obtain ⟨v66, e66, g66, f66⟩ := hd 1 66 (by kernel_rfl) rfl
                  have f66 : v66 = .bool false := f66
                  subst f66
                  clear hk hd
                  have HR := Lib.hid hR
                  clear hR
                  go_simp
                  exact hK _ _ (trivial) rfl (SA.out.same (Nat.ne_of_beq_eq_false rfl)) (SB.out.same (Nat.ne_of_beq_eq_false rfl))
                · intro ra RW hR hsA hsB hk hd K hK
                  have SA := Lib.hid hsA
                  have SB := Lib.hid hsB
                  clear hsA hsB
                  obtain ⟨e6, g6⟩ := hk 6 (.pointer (some ⟨p, 0, none⟩)) (by kernel_rfl) rfl
                  obtain ⟨v67, e67, g67, f67⟩ := hd 2 67 (by kernel_rfl) rfl
                  have f67 : v67 = .bool false := f67
                  subst f67
                  clear hk hd
                  have HR := Lib.hid hR
                  clear hR
                  go_simp
                  exact hK _ _ (trivial) rfl (SA.out.same (Nat.ne_of_beq_eq_false rfl)) (SB.out.same (Nat.ne_of_beq_eq_false rfl))
                · intro ra RW hR hsA hsB hk hd K hK
                  have SA := Lib.hid hsA
                  have SB := Lib.hid hsB
                  clear hsA hsB
                  obtain ⟨e11, g11⟩ := hk 11 (.int .i64 (x : Int)) (by kernel_rfl) rfl
                  obtain ⟨v67, e67, g67, f67⟩ := hd 2 67 (by kernel_rfl) rfl
                  have f67 : v67 = .bool false := f67
                  subst f67
                  clear hk hd
                  have HR := Lib.hid hR
                  clear hR
                  go_simp
                  exact hK _ _ (trivial) rfl (SA.out.same (Nat.ne_of_beq_eq_false rfl)) (SB.out.same (Nat.ne_of_beq_eq_false rfl))
                · intro ra RW hR hsA hsB hk hd K hK
                  have SA := Lib.hid hsA
                  have SB := Lib.hid hsB
                  clear hsA hsB
                  obtain ⟨v68, e68, g68, f68⟩ := hd 3 68 (by kernel_rfl) rfl
                  have f68 : v68 = .pointer (some ⟨p, 0, none⟩) := f68
                  subst f68
                  obtain ⟨v69, e69, g69, f69⟩ := hd 4 69 (by kernel_rfl) rfl
                  have f69 : v69 = .int .i64 (x : Int) := f69
                  subst f69
                  obtain ⟨v67, e67, g67, f67⟩ := hd 2 67 (by kernel_rfl) rfl
                  have f67 : v67 = .bool false := f67
                  subst f67
                  clear hk hd
                  have HR := Lib.hid hR
                  clear hR
                  go_simp
                  refine (octets_in (x : Int) (SA.out.early (by kernel_rfl)).1).mono ?_
                  rintro e w2 ⟨rfl, rfl⟩
                  rw [HX1.out]
                  exact hK _ _ trivial rfl (SA.out.same (Nat.ne_of_beq_eq_false rfl)) (SB.out.same (Nat.ne_of_beq_eq_false rfl))
                · intro ra RW hR hsA hsB hk hd K hK
                  have SA := Lib.hid hsA
                  have SB := Lib.hid hsB
                  clear hsA hsB
                  obtain ⟨v70, e70, g70, f70⟩ := hd 5 70 (by kernel_rfl) rfl
                  have f70 : v70 = .string ⟨#[]⟩ := f70
                  subst f70
                  obtain ⟨v67, e67, g67, f67⟩ := hd 2 67 (by kernel_rfl) rfl
                  have f67 : v67 = .bool false := f67
                  subst f67
                  clear hk hd
                  have HR := Lib.hid hR
                  clear hR
                  go_simp
                  exact hK _ _ (trivial) rfl (SA.out.same (Nat.ne_of_beq_eq_false rfl)) (SB.out.same (Nat.ne_of_beq_eq_false rfl))
                · intro ra RW hR hsA hsB hk hd K hK
                  have SA := Lib.hid hsA
                  have SB := Lib.hid hsB
                  clear hsA hsB
                  obtain ⟨v67, e67, g67, f67⟩ := hd 2 67 (by kernel_rfl) rfl
                  have f67 : v67 = .bool false := f67
                  subst f67
                  obtain ⟨v71, e71, g71, f71⟩ := hd 6 71 (by kernel_rfl) rfl
                  have f71 : v71 = .bool false := f71
                  subst f71
                  clear hk hd
                  have HR := Lib.hid hR
                  clear hR
                  go_simp
                  exact hK _ _ (trivial) rfl (SA.out.same (Nat.ne_of_beq_eq_false rfl)) (SB.out.same (Nat.ne_of_beq_eq_false rfl))
                · intro ra RW hR hsA hsB hk hd K hK
                  have SA := Lib.hid hsA
                  have SB := Lib.hid hsB
                  clear hsA hsB
                  obtain ⟨v72, e72, g72, f72⟩ := hd 7 72 (by kernel_rfl) rfl
                  have f72 : v72 = .bool false := f72
                  subst f72
                  clear hk hd
                  have HR := Lib.hid hR
                  clear hR
                  go_simp
                  exact hK _ _ (trivial) rfl (SA.out.same (Nat.ne_of_beq_eq_false rfl)) (SB.out.same (Nat.ne_of_beq_eq_false rfl))
                · intro ra RW hR hsA hsB hk hd K hK
                  have SA := Lib.hid hsA
                  have SB := Lib.hid hsB
                  clear hsA hsB
                  obtain ⟨e6, g6⟩ := hk 6 (.pointer (some ⟨p, 0, none⟩)) (by kernel_rfl) rfl
                  obtain ⟨v73, e73, g73, f73⟩ := hd 8 73 (by kernel_rfl) rfl
                  have f73 : v73 = .bool false := f73
                  subst f73
                  clear hk hd
                  have HR := Lib.hid hR
                  clear hR
                  go_simp
                  exact hK _ _ (trivial) rfl (SA.out.same (Nat.ne_of_beq_eq_false rfl)) (SB.out.same (Nat.ne_of_beq_eq_false rfl))
                · intro ra RW hR hsA hsB hk hd K hK
                  have SA := Lib.hid hsA
                  have SB := Lib.hid hsB
                  clear hsA hsB
                  obtain ⟨e11, g11⟩ := hk 11 (.int .i64 (x : Int)) (by kernel_rfl) rfl
                  obtain ⟨v73, e73, g73, f73⟩ := hd 8 73 (by kernel_rfl) rfl
                  have f73 : v73 = .bool false := f73
                  subst f73
                  clear hk hd
                  have HR := Lib.hid hR
                  clear hR
                  go_simp
                  exact hK _ _ (trivial) rfl (SA.out.same (Nat.ne_of_beq_eq_false rfl)) (SB.out.same (Nat.ne_of_beq_eq_false rfl))
                · intro ra RW hR hsA hsB hk hd K hK
                  have SA := Lib.hid hsA
                  have SB := Lib.hid hsB
                  clear hsA hsB
                  obtain ⟨e10, g10⟩ := hk 10 (.slice Aj 64 cj) (by kernel_rfl) rfl
                  obtain ⟨v73, e73, g73, f73⟩ := hd 8 73 (by kernel_rfl) rfl
                  have f73 : v73 = .bool false := f73
                  subst f73
                  clear hk hd
                  have HR := Lib.hid hR
                  clear hR
                  go_simp
                  exact hK _ _ (trivial) rfl (SA.out.same (Nat.ne_of_beq_eq_false rfl)) (SB.out.same (Nat.ne_of_beq_eq_false rfl))
                · intro ra RW hR hsA hsB hk hd K hK
                  have SA := Lib.hid hsA
                  have SB := Lib.hid hsB
                  clear hsA hsB
                  obtain ⟨v74, e74, g74, f74⟩ := hd 9 74 (by kernel_rfl) rfl
                  have f74 : v74 = .pointer (some ⟨p, 0, none⟩) := f74
                  subst f74
                  obtain ⟨v75, e75, g75, f75⟩ := hd 10 75 (by kernel_rfl) rfl
                  have f75 : v75 = .int .i64 (x : Int) := f75
                  subst f75
                  obtain ⟨v76, e76, g76, f76⟩ := hd 11 76 (by kernel_rfl) rfl
                  have f76 : v76 = .slice Aj 64 cj := f76
                  subst f76
                  obtain ⟨v73, e73, g73, f73⟩ := hd 8 73 (by kernel_rfl) rfl
                  have f73 : v73 = .bool false := f73
                  subst f73
                  clear hk hd
                  have HR := Lib.hid hR
                  clear hR
                  go_simp
                  refine (fill_in (x : Int) Aj 64 cj _ b (SA.out.self rfl).1 (HRb.out.below (SA.out.self rfl).2.2) (SA.out.self rfl).2.2.size).mono ?_
                  rintro e w2 ⟨rfl, hd⟩
                  rw [HX2.out]
                  exact hK _ _ trivial rfl (SideOut.self rfl ⟨hd.1, (SA.out.self rfl).2.1.only hd.2 (fun kk hk h => h.2 hk), (SA.out.self rfl).2.2.trans (hd.below (SA.out.self rfl).1.1)⟩) (SideOut.self rfl trivial)
                · intro ra RW hR hsA hsB hk hd K hK
                  have SA := Lib.hid hsA
                  have SB := Lib.hid hsB
                  clear hsA hsB
                  obtain ⟨v77, e77, g77, f77⟩ := hd 12 77 (by kernel_rfl) rfl
                  have f77 : v77 = .int .i64 0 := f77
                  subst f77
                  obtain ⟨v73, e73, g73, f73⟩ := hd 8 73 (by kernel_rfl) rfl
                  have f73 : v73 = .bool false := f73
                  subst f73
                  clear hk hd
                  have HR := Lib.hid hR
                  clear hR
                  go_simp
                  exact hK _ _ (trivial) rfl (SA.out.same (Nat.ne_of_beq_eq_false rfl)) (SB.out.same (Nat.ne_of_beq_eq_false rfl))
                · intro ra RW hR hsA hsB hk hd K hK
                  have SA := Lib.hid hsA
                  have SB := Lib.hid hsB
                  clear hsA hsB
                  obtain ⟨v73, e73, g73, f73⟩ := hd 8 73 (by kernel_rfl) rfl
                  have f73 : v73 = .bool false := f73
                  subst f73
                  obtain ⟨v78, e78, g78, f78⟩ := hd 13 78 (by kernel_rfl) rfl
                  have f78 : v78 = .bool false := f78
                  subst f78
                  clear hk hd
                  have HR := Lib.hid hR
                  clear hR
                  go_simp
                  exact hK _ _ (trivial) rfl (SA.out.same (Nat.ne_of_beq_eq_false rfl)) (SB.out.same (Nat.ne_of_beq_eq_false rfl))
                · intro ra RW hR hsA hsB hk hd K hK
                  have SA := Lib.hid hsA
                  have SB := Lib.hid hsB
                  clear hsA hsB
                  obtain ⟨v79, e79, g79, f79⟩ := hd 14 79 (by kernel_rfl) rfl
                  have f79 : v79 = .bool false := f79
                  subst f79
                  clear hk hd
                  have HR := Lib.hid hR
                  clear hR
                  go_simp
                  exact hK _ _ (trivial) rfl (SA.out.same (Nat.ne_of_beq_eq_false rfl)) (SB.out.same (Nat.ne_of_beq_eq_false rfl))
                · intro ra RW hR hsA hsB hk hd K hK
                  have SA := Lib.hid hsA
                  have SB := Lib.hid hsB
                  clear hsA hsB
                  obtain ⟨e6, g6⟩ := hk 6 (.pointer (some ⟨p, 0, none⟩)) (by kernel_rfl) rfl
                  obtain ⟨v80, e80, g80, f80⟩ := hd 15 80 (by kernel_rfl) rfl
                  have f80 : v80 = .bool false := f80
                  subst f80
                  clear hk hd
                  have HR := Lib.hid hR
                  clear hR
                  go_simp
                  exact hK _ _ (trivial) rfl (SA.out.same (Nat.ne_of_beq_eq_false rfl)) (SB.out.same (Nat.ne_of_beq_eq_false rfl))
                · intro ra RW hR hsA hsB hk hd K hK
                  have SA := Lib.hid hsA
                  have SB := Lib.hid hsB
                  clear hsA hsB
                  obtain ⟨e11, g11⟩ := hk 11 (.int .i64 (x : Int)) (by kernel_rfl) rfl
                  obtain ⟨v80, e80, g80, f80⟩ := hd 15 80 (by kernel_rfl) rfl
                  have f80 : v80 = .bool false := f80
                  subst f80
                  clear hk hd
                  have HR := Lib.hid hR
                  clear hR
                  go_simp
                  exact hK _ _ (trivial) rfl (SA.out.same (Nat.ne_of_beq_eq_false rfl)) (SB.out.same (Nat.ne_of_beq_eq_false rfl))
                · intro ra RW hR hsA hsB hk hd K hK
                  have SA := Lib.hid hsA
                  have SB := Lib.hid hsB
                  clear hsA hsB
                  obtain ⟨v81, e81, g81, f81⟩ := hd 16 81 (by kernel_rfl) rfl
                  have f81 : v81 = .pointer (some ⟨p, 0, none⟩) := f81
                  subst f81
                  obtain ⟨v82, e82, g82, f82⟩ := hd 17 82 (by kernel_rfl) rfl
                  have f82 : v82 = .int .i64 (x : Int) := f82
                  subst f82
                  obtain ⟨v80, e80, g80, f80⟩ := hd 15 80 (by kernel_rfl) rfl
                  have f80 : v80 = .bool false := f80
                  subst f80
                  clear hk hd
                  have HR := Lib.hid hR
                  clear hR
                  go_simp
                  refine (octets_in (x : Int) (SA.out.late (Nat.ne_of_beq_eq_false rfl) (by kernel_rfl) (by kernel_rfl)).1).mono ?_
                  rintro e w2 ⟨rfl, rfl⟩
                  rw [HX3.out]
                  exact hK _ _ trivial rfl (SA.out.same (Nat.ne_of_beq_eq_false rfl)) (SB.out.same (Nat.ne_of_beq_eq_false rfl))
                · intro ra RW hR hsA hsB hk hd K hK
                  have SA := Lib.hid hsA
                  have SB := Lib.hid hsB
                  clear hsA hsB
                  obtain ⟨e10, g10⟩ := hk 10 (.slice Aj 64 cj) (by kernel_rfl) rfl
                  obtain ⟨v80, e80, g80, f80⟩ := hd 15 80 (by kernel_rfl) rfl
                  have f80 : v80 = .bool false := f80
                  subst f80
                  clear hk hd
                  have HR := Lib.hid hR
                  clear hR
                  go_simp
                  exact hK _ _ (trivial) rfl (SA.out.same (Nat.ne_of_beq_eq_false rfl)) (SB.out.same (Nat.ne_of_beq_eq_false rfl))
                · intro ra RW hR hsA hsB hk hd K hK
                  have SA := Lib.hid hsA
                  have SB := Lib.hid hsB
                  clear hsA hsB
                  obtain ⟨v84, e84, g84, f84⟩ := hd 19 84 (by kernel_rfl) rfl
                  have f84 : v84 = .slice Aj 64 cj := f84
                  subst f84
                  obtain ⟨v80, e80, g80, f80⟩ := hd 15 80 (by kernel_rfl) rfl
                  have f80 : v80 = .bool false := f80
                  subst f80
                  clear hk hd
                  have HR := Lib.hid hR
                  clear hR
                  go_simp
                  rw [conv_rd (HRb.out.below (SA.out.late (Nat.ne_of_beq_eq_false rfl) (by kernel_rfl) (by kernel_rfl)).2.2)]
                  go_simp
                  exact hK _ _ trivial rfl (SA.out.same (Nat.ne_of_beq_eq_false rfl)) (SB.out.same (Nat.ne_of_beq_eq_false rfl))
                · intro ra RW hR hsA hsB hk hd K hK
                  have SA := Lib.hid hsA
                  have SB := Lib.hid hsB
                  clear hsA hsB
                  obtain ⟨v83, e83, g83, f83⟩ := hd 18 83 (by kernel_rfl) rfl
                  have f83 : v83 = .string ⟨b.toArray⟩ := f83
                  subst f83
                  obtain ⟨v85, e85, g85, f85⟩ := hd 20 85 (by kernel_rfl) rfl
                  have f85 : v85 = .string ⟨b.toArray⟩ := f85
                  subst f85
                  obtain ⟨v80, e80, g80, f80⟩ := hd 15 80 (by kernel_rfl) rfl
                  have f80 : v80 = .bool false := f80
                  subst f80
                  clear hk hd
                  have HR := Lib.hid hR
                  clear hR
                  go_simp
                  exact hK _ _ (trivial) rfl (SA.out.same (Nat.ne_of_beq_eq_false rfl)) (SB.out.same (Nat.ne_of_beq_eq_false rfl))
                · intro ra RW hR hsA hsB hk hd K hK
                  have SA := Lib.hid hsA
                  have SB := Lib.hid hsB
                  clear hsA hsB
                  obtain ⟨v80, e80, g80, f80⟩ := hd 15 80 (by kernel_rfl) rfl
                  have f80 : v80 = .bool false := f80
                  subst f80
                  obtain ⟨v86, e86, g86, f86⟩ := hd 21 86 (by kernel_rfl) rfl
                  have f86 : v86 = .bool false := f86
                  subst f86
                  clear hk hd
                  have HR := Lib.hid hR
                  clear hR
                  go_simp
                  exact hK _ _ (trivial) rfl (SA.out.same (Nat.ne_of_beq_eq_false rfl)) (SB.out.same (Nat.ne_of_beq_eq_false rfl))
              intro vs RW hR hpA hpB hF
              have q0 : vs 0 = .int .i64 0 := hF 0 (by decide)
              have q1 : vs 1 = .bool false := hF 1 (by decide)
              have q2 : vs 2 = .bool false := hF 2 (by decide)
              have q3 : vs 3 = .pointer (some ⟨p, 0, none⟩) := hF 3 (by decide)
              have q4 : vs 4 = .int .i64 (x : Int) := hF 4 (by decide)
              have q5 : vs 5 = .string ⟨#[]⟩ := hF 5 (by decide)
              have q6 : vs 6 = .bool false := hF 6 (by decide)
              have q7 : vs 7 = .bool false := hF 7 (by decide)
              have q8 : vs 8 = .bool false := hF 8 (by decide)
              have q9 : vs 9 = .pointer (some ⟨p, 0, none⟩) := hF 9 (by decide)
              have q10 : vs 10 = .int .i64 (x : Int) := hF 10 (by decide)
              have q11 : vs 11 = .slice Aj 64 cj := hF 11 (by decide)
              have q12 : vs 12 = .int .i64 0 := hF 12 (by decide)
              have q13 : vs 13 = .bool false := hF 13 (by decide)
              have q14 : vs 14 = .bool false := hF 14 (by decide)
              have q15 : vs 15 = .bool false := hF 15 (by decide)
              have q16 : vs 16 = .pointer (some ⟨p, 0, none⟩) := hF 16 (by decide)
              have q17 : vs 17 = .int .i64 (x : Int) := hF 17 (by decide)
              have q18 : vs 18 = .string ⟨b.toArray⟩ := hF 18 (by decide)
              have q19 : vs 19 = .slice Aj 64 cj := hF 19 (by decide)
              have q20 : vs 20 = .string ⟨b.toArray⟩ := hF 20 (by decide)
              have q21 : vs 21 = .bool false := hF 21 (by decide)
              have q22 : vs 22 = .bool false := hF 22 (by decide)
              simp only [setAll, List.setIfInBounds_toArray, List.set_cons_zero, List.set_cons_succ, q0, q1, q2, q3, q4, q5, q6, q7, q8, q9, q10, q11, q12, q13, q14, q15, q16, q17, q18, q19, q20, q21, q22]
              clear hF q0 q1 q2 q3 q4 q5 q6 q7 q8 q9 q10 q11 q12 q13 q14 q15 q16 q17 q18 q19 q20 q21 q22
              clear vs
              obtain ⟨hi5, ho5, hb5⟩ := hpA
              have HI5 := Lib.hid hi5; have HO5 := Lib.hid ho5; have HB5 := Lib.hid hb5
              clear hi5 ho5 hb5 hpB hR
              go_wp2_with (first
                | (go_at_call 14; refine (hFr _ _ _ HI6.out HL6.out).mono ?_; rintro e7 w7 ⟨v7, rfl, hnew7⟩; have HB7 := Lib.hid (below_trans HB6.out hnew7.2.1); have HI7 := Lib.hid (HI6.out.below hnew7.2.1); have HO7 := Lib.hid (HO6.out.below hnew7.2.1 fun _ hk => HO6.out.lt hk); obtain ⟨A7, c7, rfl, -⟩ := newI_own hnew7; rw [List.length_map, HLL.out]; clear hnew7)
                | (at_builtin; refine wpList_append_mine _ rfl (.tmp 88) (.tmp 90) _ rfl 3 i0 _ 1 8 Try.underlying30 hi0 hz0 hz1 hz2 rfl (by omega) (.slice (some ⟨g, off + 1, none⟩) hn' c') hn' (H'.map nV) rfl (by exact HO5.out.alloc _) _ 1 1 [_] rfl rfl (by exact news_push rfl rfl) (by simp [Value.oneCell']) (by omega) (by simp only [maxLen]; omega) (by omega) _ rfl ?_; intro g6 o6 c6 w6 hown6 hgrow6 hat6; have hgl6 : g6 < w6.heap.size := hown6.lt rfl; have HI6 := Lib.hid (HI5.out.push (n := hn' + 1) (off := o6) (c := c6) _ hgrow6 hat6 hgl6); have HB6 := Lib.hid (Below.grown (HB5.out.alloc HB5.out.size _) hgrow6 (by have := HB5.out.size; simp; omega) (fun q hq => HNW.out q hq)); have HN6 := Lib.hid (push_new (off := o6) (n := hn' + 1) (c := c6) HNW.out HB5.out.size hat6); have HO6 := Lib.hid (push_own hHl hown6); clear hown6 hgrow6 hat6))
              go_roundw
              case rel => exact ⟨j + 1, _, H' ++ [x], by omega, by go_num, HINV.out, HB7.out, by rw [List.length_append, hHl]; exact HO7.out, HN6.out, HI7.out⟩
              case measure => simp [intOf]; omega
        · have k5 : ((hn : Int) == (K : Int)) = false := by rw [beq_eq_false_iff_ne]; omega
          have HO := HO0; have HIN := HI0; have HBW := HB0; have HNW := HN0
          go_wp2_with fail
          obtain ⟨x, t, hl⟩ : ∃ x t, s.ln = x :: t := by
            cases hs : s.ln with
            | nil => have := hinv.len; rw [hs] at this; simp at this; omega
            | cons x t => exact ⟨x, t, rfl⟩
          obtain ⟨hX, hE, hO1, hFE, hO2, hinv2⟩ := hinv.take hl b (by omega)
          have hT := take_in HIN.out (fun q hq => by rw [hinv.n]; exact hinv.lt q (by simp [hq]))
          rw [hX, hE] at hT
          unfold pp at hT
          obtain ⟨F, hF⟩ : ∃ F, (fillS (takeS s) (x : Int) b).ln.length = F := ⟨_, rfl⟩
          have hF2 : hn + 1 + F = K := by have := hinv2.len; simp at this; omega
          have k6 : ((hn : Int) + 1 + (F : Int) != (K : Int)) = false := by simp; omega
          have k7 : F ≤ 8 := by omega
          have k8 : hn ≤ 8 := by omega
          have HT := Lib.hid hT; have HX1 := Lib.hid hO1; have HX2 := Lib.hid hFE; have HX3 := Lib.hid hO2; have HINV := Lib.hid hinv2; have HLL := Lib.hid hF; have HL6 : Hid ((fillS (takeS s) (x : Int) b).ln.length ≤ 64) := by show _ ≤ _; omega
          clear hT hO1 hFE hO2 hinv2 hX hE hl hinv hF hF2
          refine HT.out.mono ?_
          rintro e4 w4 ⟨rfl, hd4⟩
          have HO4 := Lib.hid (HO.out.only hd4.2 (fun kk hk h => h.2 hk)); have HB4 := Lib.hid (HBW.out.trans (hd4.below HIN.out.1)); have HI4 := Lib.hid hd4.1
          clear hd4 HT
          go_wp2
          refine region_objs (by kernel_rfl) (fun _ _ => True)
            [.val (.int .i64 0),
             .val (.bool false),
             .val (.bool false),
             .val (.pointer (some ⟨p, 0, none⟩)),
             .val (.int .i64 (x : Int)),
             .val (.string ⟨#[]⟩),
             .val (.bool false),
             .val (.bool false),
             .val (.bool false),
             .val (.pointer (some ⟨p, 0, none⟩)),
             .val (.int .i64 (x : Int)),
             .val (.slice Aj 64 cj),
             .val (.int .i64 0),
             .val (.bool false),
             .val (.bool false),
             .val (.bool false),
             .val (.pointer (some ⟨p, 0, none⟩)),
             .val (.int .i64 (x : Int)),
             .val (.string ⟨b.toArray⟩),
             .val (.slice Aj 64 cj),
             .val (.string ⟨b.toArray⟩),
             .val (.bool false),
             .val (.bool false)]
            (⟨12, fun W => In w.heap.size (fun q => (Value.slice A1 hn c1).ownBlock = some q) W p (takeS s) ∧ Own W 3 1 (.slice A1 hn c1) hn (H.map nV) ∧ Below w.heap.size w W, fun W => In w.heap.size (fun q => (Value.slice A1 hn c1).ownBlock = some q) W p (fillS (takeS s) (x : Int) b) ∧ Own W 3 1 (.slice A1 hn c1) hn (H.map nV) ∧ Below w.heap.size w W⟩) (⟨12, fun _ => True, fun _ => True⟩) (fun _ => trivial) (fun _ _ _ _ _ => trivial) (by kernel_rfl) (⟨HI4.out.drewN 1, HO4.out.drewN 1, below_drewN HB4.out 1⟩) (trivial) ⟨Nat.le_of_ble_eq_true rfl, Nat.le_of_ble_eq_true rfl⟩ ?_ ?_
          · refine ⟨?_, ?_, ?_, ?_, ?_, ?_, ?_, ?_, ?_, ?_, ?_, ?_, ?_, ?_, ?_, ?_, ?_, ?_, ?_, ?_, ?_, ?_, ?_, trivial⟩
            · intro ra RW hR hsA hsB hk hd K hK
              have SA := Lib.hid hsA
              have SB := Lib.hid hsB
              clear hsA hsB
              obtain ⟨e12, g12⟩ := hk 12 (.int .i64 0) (by kernel_rfl) rfl
              clear hk hd
              have HR := Lib.hid hR
              clear hR
              go_simp
              exact hK _ _ (trivial) rfl (SA.out.same (Nat.ne_of_beq_eq_false rfl)) (SB.out.same (Nat.ne_of_beq_eq_false rfl))
            · intro ra RW hR hsA hsB hk hd K hK
              have SA := Lib.hid hsA
              have SB := Lib.hid hsB
              clear hsA hsB
              obtain ⟨v65, e65, g65, f65⟩ := hd 0 65 (by kernel_rfl) rfl
              have f65 : v65 = .int .i64 0 := f65
              subst f65
              clear hk hd
              have HR := Lib.hid hR
              clear hR
              go_simp
              exact hK _ _ (trivial) rfl (SA.out.same (Nat.ne_of_beq_eq_false rfl)) (SB.out.same (Nat.ne_of_beq_eq_false rfl))
            · intro ra RW hR hsA hsB hk hd K hK
              have SA := Lib.hid hsA
              have SB := Lib.hid hsB
              clear hsA hsB
              obtain ⟨v66, e66, g66, f66⟩ := hd 1 66 (by kernel_rfl) rfl
              have f66 : v66 = .bool false := f66
              subst f66
              clear hk hd
              have HR := Lib.hid hR
              clear hR
              go_simp
              exact hK _ _ (trivial) rfl (SA.out.same (Nat.ne_of_beq_eq_false rfl)) (SB.out.same (Nat.ne_of_beq_eq_false rfl))
            · intro ra RW hR hsA hsB hk hd K hK
              have SA := Lib.hid hsA
              have SB := Lib.hid hsB
              clear hsA hsB
              obtain ⟨e6, g6⟩ := hk 6 (.pointer (some ⟨p, 0, none⟩)) (by kernel_rfl) rfl
              obtain ⟨v67, e67, g67, f67⟩ := hd 2 67 (by kernel_rfl) rfl
              have f67 : v67 = .bool false := f67
              subst f67
              clear hk hd
              have HR := Lib.hid hR
              clear hR
              go_simp
              exact hK _ _ (trivial) rfl (SA.out.same (Nat.ne_of_beq_eq_false rfl)) (SB.out.same (Nat.ne_of_beq_eq_false rfl))
            · intro ra RW hR hsA hsB hk hd K hK
              have SA := Lib.hid hsA
              have SB := Lib.hid hsB
              clear hsA hsB
              obtain ⟨e11, g11⟩ := hk 11 (.int .i64 (x : Int)) (by kernel_rfl) rfl
              obtain ⟨v67, e67, g67, f67⟩ := hd 2 67 (by kernel_rfl) rfl
              have f67 : v67 = .bool false := f67
              subst f67
              clear hk hd
              have HR := Lib.hid hR
              clear hR
              go_simp
              exact hK _ _ (trivial) rfl (SA.out.same (Nat.ne_of_beq_eq_false rfl)) (SB.out.same (Nat.ne_of_beq_eq_false rfl))
            · intro ra RW hR hsA hsB hk hd K hK
              have SA := Lib.hid hsA
              have SB := Lib.hid hsB
              clear hsA hsB
              obtain ⟨v68, e68, g68, f68⟩ := hd 3 68 (by kernel_rfl) rfl
              have f68 : v68 = .pointer (some ⟨p, 0, none⟩) := f68
              subst f68
              obtain ⟨v69, e69, g69, f69⟩ := hd 4 69 (by kernel_rfl) rfl
              have f69 : v69 = .int .i64 (x : Int) := f69
              subst f69
              obtain ⟨v67, e67, g67, f67⟩ := hd 2 67 (by kernel_rfl) rfl
              have f67 : v67 = .bool false := f67
              subst f67
              clear hk hd
              have HR := Lib.hid hR
              clear hR
              go_simp
              refine (octets_in (x : Int) (SA.out.early (by kernel_rfl)).1).mono ?_
              rintro e w2 ⟨rfl, rfl⟩
              rw [HX1.out]
              exact hK _ _ trivial rfl (SA.out.same (Nat.ne_of_beq_eq_false rfl)) (SB.out.same (Nat.ne_of_beq_eq_false rfl))
            · intro ra RW hR hsA hsB hk hd K hK
              have SA := Lib.hid hsA
              have SB := Lib.hid hsB
              clear hsA hsB
              obtain ⟨v70, e70, g70, f70⟩ := hd 5 70 (by kernel_rfl) rfl
              have f70 : v70 = .string ⟨#[]⟩ := f70
              subst f70
              obtain ⟨v67, e67, g67, f67⟩ := hd 2 67 (by kernel_rfl) rfl
              have f67 : v67 = .bool false := f67
              subst f67
              clear hk hd
              have HR := Lib.hid hR
              clear hR
              go_simp
              exact hK _ _ (trivial) rfl (SA.out.same (Nat.ne_of_beq_eq_false rfl)) (SB.out.same (Nat.ne_of_beq_eq_false rfl))
            · intro ra RW hR hsA hsB hk hd K hK
              have SA := Lib.hid hsA
              have SB := Lib.hid hsB
              clear hsA hsB
              obtain ⟨v67, e67, g67, f67⟩ := hd 2 67 (by kernel_rfl) rfl
              have f67 : v67 = .bool false := f67
              subst f67
              obtain ⟨v71, e71, g71, f71⟩ := hd 6 71 (by kernel_rfl) rfl
              have f71 : v71 = .bool false := f71
              subst f71
              clear hk hd
              have HR := Lib.hid hR
              clear hR
              go_simp
              exact hK _ _ (trivial) rfl (SA.out.same (Nat.ne_of_beq_eq_false rfl)) (SB.out.same (Nat.ne_of_beq_eq_false rfl))
            · intro ra RW hR hsA hsB hk hd K hK
              have SA := Lib.hid hsA
              have SB := Lib.hid hsB
              clear hsA hsB
              obtain ⟨v72, e72, g72, f72⟩ := hd 7 72 (by kernel_rfl) rfl
              have f72 : v72 = .bool false := f72
              subst f72
              clear hk hd
              have HR := Lib.hid hR
              clear hR
              go_simp
              exact hK _ _ (trivial) rfl (SA.out.same (Nat.ne_of_beq_eq_false rfl)) (SB.out.same (Nat.ne_of_beq_eq_false rfl))
            · intro ra RW hR hsA hsB hk hd K hK
              have SA := Lib.hid hsA
              have SB := Lib.hid hsB
              clear hsA hsB
              obtain ⟨e6, g6⟩ := hk 6 (.pointer (some ⟨p, 0, none⟩)) (by kernel_rfl) rfl
              obtain ⟨v73, e73, g73, f73⟩ := hd 8 73 (by kernel_rfl) rfl
              have f73 : v73 = .bool false := f73
              subst f73
              clear hk hd
              have HR := Lib.hid hR
              clear hR
              go_simp
              exact hK _ _ (trivial) rfl (SA.out.same (Nat.ne_of_beq_eq_false rfl)) (SB.out.same (Nat.ne_of_beq_eq_false rfl))
            · intro ra RW hR hsA hsB hk hd K hK
              have SA := Lib.hid hsA
              have SB := Lib.hid hsB
              clear hsA hsB
              obtain ⟨e11, g11⟩ := hk 11 (.int .i64 (x : Int)) (by kernel_rfl) rfl
              obtain ⟨v73, e73, g73, f73⟩ := hd 8 73 (by kernel_rfl) rfl
              have f73 : v73 = .bool false := f73
              subst f73
              clear hk hd
              have HR := Lib.hid hR
              clear hR
              go_simp
              exact hK _ _ (trivial) rfl (SA.out.same (Nat.ne_of_beq_eq_false rfl)) (SB.out.same (Nat.ne_of_beq_eq_false rfl))
            · intro ra RW hR hsA hsB hk hd K hK
              have SA := Lib.hid hsA
              have SB := Lib.hid hsB
              clear hsA hsB
              obtain ⟨e10, g10⟩ := hk 10 (.slice Aj 64 cj) (by kernel_rfl) rfl
              obtain ⟨v73, e73, g73, f73⟩ := hd 8 73 (by kernel_rfl) rfl
              have f73 : v73 = .bool false := f73
              subst f73
              clear hk hd
              have HR := Lib.hid hR
              clear hR
              go_simp
              exact hK _ _ (trivial) rfl (SA.out.same (Nat.ne_of_beq_eq_false rfl)) (SB.out.same (Nat.ne_of_beq_eq_false rfl))
            · intro ra RW hR hsA hsB hk hd K hK
              have SA := Lib.hid hsA
              have SB := Lib.hid hsB
              clear hsA hsB
              obtain ⟨v74, e74, g74, f74⟩ := hd 9 74 (by kernel_rfl) rfl
              have f74 : v74 = .pointer (some ⟨p, 0, none⟩) := f74
              subst f74
              obtain ⟨v75, e75, g75, f75⟩ := hd 10 75 (by kernel_rfl) rfl
              have f75 : v75 = .int .i64 (x : Int) := f75
              subst f75
              obtain ⟨v76, e76, g76, f76⟩ := hd 11 76 (by kernel_rfl) rfl
              have f76 : v76 = .slice Aj 64 cj := f76
              subst f76
              obtain ⟨v73, e73, g73, f73⟩ := hd 8 73 (by kernel_rfl) rfl
              have f73 : v73 = .bool false := f73
              subst f73
              clear hk hd
              have HR := Lib.hid hR
              clear hR
              go_simp
              refine (fill_in (x : Int) Aj 64 cj _ b (SA.out.self rfl).1 (HRb.out.below (SA.out.self rfl).2.2) (SA.out.self rfl).2.2.size).mono ?_
              rintro e w2 ⟨rfl, hd⟩
              rw [HX2.out]
              exact hK _ _ trivial rfl (SideOut.self rfl ⟨hd.1, (SA.out.self rfl).2.1.only hd.2 (fun kk hk h => h.2 hk), (SA.out.self rfl).2.2.trans (hd.below (SA.out.self rfl).1.1)⟩) (SideOut.self rfl trivial)
            · intro ra RW hR hsA hsB hk hd K hK
              have SA := Lib.hid hsA
              have SB := Lib.hid hsB
              clear hsA hsB
              obtain ⟨v77, e77, g77, f77⟩ := hd 12 77 (by kernel_rfl) rfl
              have f77 : v77 = .int .i64 0 := f77
              subst f77
              obtain ⟨v73, e73, g73, f73⟩ := hd 8 73 (by kernel_rfl) rfl
              have f73 : v73 = .bool false := f73
              subst f73
              clear hk hd
              have HR := Lib.hid hR
              clear hR
              go_simp
              exact hK _ _ (trivial) rfl (SA.out.same (Nat.ne_of_beq_eq_false rfl)) (SB.out.same (Nat.ne_of_beq_eq_false rfl))
            · intro ra RW hR hsA hsB hk hd K hK
              have SA := Lib.hid hsA
              have SB := Lib.hid hsB
              clear hsA hsB
              obtain ⟨v73, e73, g73, f73⟩ := hd 8 73 (by kernel_rfl) rfl
              have f73 : v73 = .bool false := f73
              subst f73
              obtain ⟨v78, e78, g78, f78⟩ := hd 13 78 (by kernel_rfl) rfl
              have f78 : v78 = .bool false := f78
              subst f78
              clear hk hd
              have HR := Lib.hid hR
              clear hR
              go_simp
              exact hK _ _ (trivial) rfl (SA.out.same (Nat.ne_of_beq_eq_false rfl)) (SB.out.same (Nat.ne_of_beq_eq_false rfl))
            · intro ra RW hR hsA hsB hk hd K hK
              have SA := Lib.hid hsA
              have SB := Lib.hid hsB
              clear hsA hsB
              obtain ⟨v79, e79, g79, f79⟩ := hd 14 79 (by kernel_rfl) rfl
              have f79 : v79 = .bool false := f79
              subst f79
              clear hk hd
              have HR := Lib.hid hR
              clear hR
              go_simp
              exact hK _ _ (trivial) rfl (SA.out.same (Nat.ne_of_beq_eq_false rfl)) (SB.out.same (Nat.ne_of_beq_eq_false rfl))
            · intro ra RW hR hsA hsB hk hd K hK
              have SA := Lib.hid hsA
              have SB := Lib.hid hsB
              clear hsA hsB
              obtain ⟨e6, g6⟩ := hk 6 (.pointer (some ⟨p, 0, none⟩)) (by kernel_rfl) rfl
              obtain ⟨v80, e80, g80, f80⟩ := hd 15 80 (by kernel_rfl) rfl
              have f80 : v80 = .bool false := f80
              subst f80
              clear hk hd
              have HR := Lib.hid hR
              clear hR
              go_simp
              exact hK _ _ (trivial) rfl (SA.out.same (Nat.ne_of_beq_eq_false rfl)) (SB.out.same (Nat.ne_of_beq_eq_false rfl))
            · intro ra RW hR hsA hsB hk hd K hK
              have SA := Lib.hid hsA
              have SB := Lib.hid hsB
              clear hsA hsB
              obtain ⟨e11, g11⟩ := hk 11 (.int .i64 (x : Int)) (by kernel_rfl) rfl
              obtain ⟨v80, e80, g80, f80⟩ := hd 15 80 (by kernel_rfl) rfl
              have f80 : v80 = .bool false := f80
              subst f80
              clear hk hd
              have HR := Lib.hid hR
              clear hR
              go_simp
              exact hK _ _ (trivial) rfl (SA.out.same (Nat.ne_of_beq_eq_false rfl)) (SB.out.same (Nat.ne_of_beq_eq_false rfl))
            · intro ra RW hR hsA hsB hk hd K hK
              have SA := Lib.hid hsA
              have SB := Lib.hid hsB
              clear hsA hsB
              obtain ⟨v81, e81, g81, f81⟩ := hd 16 81 (by kernel_rfl) rfl
              have f81 : v81 = .pointer (some ⟨p, 0, none⟩) := f81
              subst f81
              obtain ⟨v82, e82, g82, f82⟩ := hd 17 82 (by kernel_rfl) rfl
              have f82 : v82 = .int .i64 (x : Int) := f82
              subst f82
              obtain ⟨v80, e80, g80, f80⟩ := hd 15 80 (by kernel_rfl) rfl
              have f80 : v80 = .bool false := f80
              subst f80
              clear hk hd
              have HR := Lib.hid hR
              clear hR
              go_simp
              refine (octets_in (x : Int) (SA.out.late (Nat.ne_of_beq_eq_false rfl) (by kernel_rfl) (by kernel_rfl)).1).mono ?_
              rintro e w2 ⟨rfl, rfl⟩
              rw [HX3.out]
              exact hK _ _ trivial rfl (SA.out.same (Nat.ne_of_beq_eq_false rfl)) (SB.out.same (Nat.ne_of_beq_eq_false rfl))
            · intro ra RW hR hsA hsB hk hd K hK
              have SA := Lib.hid hsA
              have SB := Lib.hid hsB
              clear hsA hsB
              obtain ⟨e10, g10⟩ := hk 10 (.slice Aj 64 cj) (by kernel_rfl) rfl
              obtain ⟨v80, e80, g80, f80⟩ := hd 15 80 (by kernel_rfl) rfl
              have f80 : v80 = .bool false := f80
              subst f80
              clear hk hd
              have HR := Lib.hid hR
              clear hR
              go_simp
              exact hK _ _ (trivial) rfl (SA.out.same (Nat.ne_of_beq_eq_false rfl)) (SB.out.same (Nat.ne_of_beq_eq_false rfl))
            · intro ra RW hR hsA hsB hk hd K hK
              have SA := Lib.hid hsA
              have SB := Lib.hid hsB
              clear hsA hsB
              obtain ⟨v84, e84, g84, f84⟩ := hd 19 84 (by kernel_rfl) rfl
              have f84 : v84 = .slice Aj 64 cj := f84
              subst f84
              obtain ⟨v80, e80, g80, f80⟩ := hd 15 80 (by kernel_rfl) rfl
              have f80 : v80 = .bool false := f80
              subst f80
              clear hk hd
              have HR := Lib.hid hR
              clear hR
              go_simp
              rw [conv_rd (HRb.out.below (SA.out.late (Nat.ne_of_beq_eq_false rfl) (by kernel_rfl) (by kernel_rfl)).2.2)]
              go_simp
              exact hK _ _ trivial rfl (SA.out.same (Nat.ne_of_beq_eq_false rfl)) (SB.out.same (Nat.ne_of_beq_eq_false rfl))
            · intro ra RW hR hsA hsB hk hd K hK
              have SA := Lib.hid hsA
              have SB := Lib.hid hsB
              clear hsA hsB
              obtain ⟨v83, e83, g83, f83⟩ := hd 18 83 (by kernel_rfl) rfl
              have f83 : v83 = .string ⟨b.toArray⟩ := f83
              subst f83
              obtain ⟨v85, e85, g85, f85⟩ := hd 20 85 (by kernel_rfl) rfl
              have f85 : v85 = .string ⟨b.toArray⟩ := f85
              subst f85
              obtain ⟨v80, e80, g80, f80⟩ := hd 15 80 (by kernel_rfl) rfl
              have f80 : v80 = .bool false := f80
              subst f80
              clear hk hd
              have HR := Lib.hid hR
              clear hR
              go_simp
              exact hK _ _ (trivial) rfl (SA.out.same (Nat.ne_of_beq_eq_false rfl)) (SB.out.same (Nat.ne_of_beq_eq_false rfl))
            · intro ra RW hR hsA hsB hk hd K hK
              have SA := Lib.hid hsA
              have SB := Lib.hid hsB
              clear hsA hsB
              obtain ⟨v80, e80, g80, f80⟩ := hd 15 80 (by kernel_rfl) rfl
              have f80 : v80 = .bool false := f80
              subst f80
              obtain ⟨v86, e86, g86, f86⟩ := hd 21 86 (by kernel_rfl) rfl
              have f86 : v86 = .bool false := f86
              subst f86
              clear hk hd
              have HR := Lib.hid hR
              clear hR
              go_simp
              exact hK _ _ (trivial) rfl (SA.out.same (Nat.ne_of_beq_eq_false rfl)) (SB.out.same (Nat.ne_of_beq_eq_false rfl))
          intro vs RW hR hpA hpB hF
          have q0 : vs 0 = .int .i64 0 := hF 0 (by decide)
          have q1 : vs 1 = .bool false := hF 1 (by decide)
          have q2 : vs 2 = .bool false := hF 2 (by decide)
          have q3 : vs 3 = .pointer (some ⟨p, 0, none⟩) := hF 3 (by decide)
          have q4 : vs 4 = .int .i64 (x : Int) := hF 4 (by decide)
          have q5 : vs 5 = .string ⟨#[]⟩ := hF 5 (by decide)
          have q6 : vs 6 = .bool false := hF 6 (by decide)
          have q7 : vs 7 = .bool false := hF 7 (by decide)
          have q8 : vs 8 = .bool false := hF 8 (by decide)
          have q9 : vs 9 = .pointer (some ⟨p, 0, none⟩) := hF 9 (by decide)
          have q10 : vs 10 = .int .i64 (x : Int) := hF 10 (by decide)
          have q11 : vs 11 = .slice Aj 64 cj := hF 11 (by decide)
          have q12 : vs 12 = .int .i64 0 := hF 12 (by decide)
          have q13 : vs 13 = .bool false := hF 13 (by decide)
          have q14 : vs 14 = .bool false := hF 14 (by decide)
          have q15 : vs 15 = .bool false := hF 15 (by decide)
          have q16 : vs 16 = .pointer (some ⟨p, 0, none⟩) := hF 16 (by decide)
          have q17 : vs 17 = .int .i64 (x : Int) := hF 17 (by decide)
          have q18 : vs 18 = .string ⟨b.toArray⟩ := hF 18 (by decide)
          have q19 : vs 19 = .slice Aj 64 cj := hF 19 (by decide)
          have q20 : vs 20 = .string ⟨b.toArray⟩ := hF 20 (by decide)
          have q21 : vs 21 = .bool false := hF 21 (by decide)
          have q22 : vs 22 = .bool false := hF 22 (by decide)
          simp only [setAll, List.setIfInBounds_toArray, List.set_cons_zero, List.set_cons_succ, q0, q1, q2, q3, q4, q5, q6, q7, q8, q9, q10, q11, q12, q13, q14, q15, q16, q17, q18, q19, q20, q21, q22]
          clear hF q0 q1 q2 q3 q4 q5 q6 q7 q8 q9 q10 q11 q12 q13 q14 q15 q16 q17 q18 q19 q20 q21 q22
          clear vs
          obtain ⟨hi5, ho5, hb5⟩ := hpA
          have HI5 := Lib.hid hi5; have HO5 := Lib.hid ho5; have HB5 := Lib.hid hb5
          clear hi5 ho5 hb5 hpB hR
          go_wp2_with (first
            | (go_at_call 14; refine (hFr _ _ _ HI6.out HL6.out).mono ?_; rintro e7 w7 ⟨v7, rfl, hnew7⟩; have HB7 := Lib.hid (below_trans HB6.out hnew7.2.1); have HI7 := Lib.hid (HI6.out.below hnew7.2.1); have HO7 := Lib.hid (HO6.out.below hnew7.2.1 fun _ hk => HO6.out.lt hk); obtain ⟨A7, c7, rfl, -⟩ := newI_own hnew7; rw [List.length_map, HLL.out]; clear hnew7)
            | (at_builtin; refine wpList_append_mine _ rfl (.tmp 88) (.tmp 90) _ rfl 3 i0 _ 1 8 Try.underlying30 hi0 hz0 hz1 hz2 rfl (by omega) (.slice A1 hn c1) hn (H.map nV) rfl (by exact HO5.out.alloc _) _ 1 1 [_] rfl rfl (by exact news_push rfl rfl) (by simp [Value.oneCell']) (by omega) (by simp only [maxLen]; omega) (by omega) _ rfl ?_; intro g6 o6 c6 w6 hown6 hgrow6 hat6; have hgl6 : g6 < w6.heap.size := hown6.lt rfl; have HI6 := Lib.hid (HI5.out.push (n := hn + 1) (off := o6) (c := c6) _ hgrow6 hat6 hgl6); have HB6 := Lib.hid (Below.grown (HB5.out.alloc HB5.out.size _) hgrow6 (by have := HB5.out.size; simp; omega) (fun q hq => HNW.out q hq)); have HN6 := Lib.hid (push_new (off := o6) (n := hn + 1) (c := c6) HNW.out HB5.out.size hat6); have HO6 := Lib.hid (push_own hHl hown6); clear hown6 hgrow6 hat6))
          go_roundw
          case rel => exact ⟨j + 1, _, H ++ [x], by omega, by go_num, HINV.out, HB7.out, by rw [List.length_append, hHl]; exact HO7.out, HN6.out, HI7.out⟩
          case measure => simp [intOf]; omega
      · obtain ⟨b, hb⟩ : ∃ b, b = b0 := ⟨_, rfl⟩
        subst hb
        have HRb := HRJ
        have i64 : ¬ (64 : Int) < (b.length : Int) := by omega
        clear HRJ
        generalize hbl : b.length = nb at *
        by_cases hfull : hn = K
        · have hfull' : ((hn : Int) == (K : Int)) = true := by simp; omega
          obtain ⟨g, off, cp, hA1, -, -, -, hc0, -⟩ := HO0.out.form (by omega)
          simp only [Value.slice.injEq, true_and] at hA1
          obtain ⟨rfl, rfl⟩ := hA1
          cases H with
          | nil => simp at hHl; omega
          | cons x0 H' =>
            have c00 := hc0 0 (by omega)
            simp only [List.map_cons, List.getElem?_cons_zero, nV, Nat.add_zero] at c00
            obtain ⟨hinv', hE0, hO0⟩ := hinv.drop
            have hln0 : s.ln.length = 0 := by have := hinv.len; simp at this hHl; omega
            have hD := drop_in (x0 : Int) HI0.out (by rw [hO0]; omega) (by omega)
            rw [hE0] at hD
            unfold pp at hD
            have htl := HO0.out.tail_ 1 (by omega)
            obtain ⟨hn', hnn⟩ : ∃ hn', hn - 1 = hn' := ⟨_, rfl⟩
            obtain ⟨c', hcc⟩ : ∃ c', c1 - 1 = c' := ⟨_, rfl⟩
            rw [hnn, hcc] at htl
            have hHl' : H'.length = hn' := by simp at hHl; omega
            generalize dropS s (x0 : Int) = s2 at *
            have HD := Lib.hid hD; have HTL := Lib.hid htl; have HNW := Lib.hid (show ∀ q, (Value.slice (some ⟨g, off, none⟩) hn c1).ownBlock = some q → w.heap.size ≤ q from HN0.out)
            clear hD htl hc0 hinv hE0 hO0 hln0
            have hinv := hinv'
            clear hinv'
            have hHl := hHl'
            have j1 : 1 ≤ hn := by omega
            have j2 : (1 : Int) ≤ (hn : Int) := by omega
            clear hfull
            by_cases hc1 : c1 = 1
            · subst hc1
              have hcz : c' = 0 := by omega
              subst hcz
              clear hcc
              go_wp2_with (go_at_call 11; refine HD.out.mono ?_; rintro e3 w3 ⟨rfl, hd3⟩; have HOT : Own w3 3 1 (.slice (some ⟨g, off, none⟩) hn' 0) hn' (H'.map nV) := (by have h := HTL.out.only hd3.2 (fun kk hk h => h.2 (by simpa [Value.ownBlock] using hk)); simpa using h); have HBW := Lib.hid (HB0.out.trans (hd3.below HI0.out.1)); have HI3 := Lib.hid hd3.1; clear hd3)
              have HO := Lib.hid HOT
              clear HOT
              have HIN : Hid (In w.heap.size (fun q => (Value.slice (some ⟨g, off, none⟩) hn' 0).ownBlock = some q) w3 p s2) := HI3.out
              have HNW : Hid (∀ q, (Value.slice (some ⟨g, off, none⟩) hn' 0).ownBlock = some q → w.heap.size ≤ q) := HNW.out
              obtain ⟨x, t, hl⟩ : ∃ x t, s2.ln = x :: t := by
                cases hs : s2.ln with
                | nil => have := hinv.len; rw [hs] at this; simp at this; omega
                | cons x t => exact ⟨x, t, rfl⟩
              obtain ⟨hX, hE, hO1, hFE, hO2, hinv2⟩ := hinv.take hl b (by omega)
              have hT := take_in HIN.out (fun q hq => by rw [hinv.n]; exact hinv.lt q (by simp [hq]))
              rw [hX, hE] at hT
              unfold pp at hT
              obtain ⟨F, hF⟩ : ∃ F, (fillS (takeS s2) (x : Int) b).ln.length = F := ⟨_, rfl⟩
              have hF2 : hn' + 1 + F = K := by have := hinv2.len; simp at this; omega
              have k6 : ((hn' : Int) + 1 + (F : Int) != (K : Int)) = false := by simp; omega
              have k7 : F ≤ 8 := by omega
              have k8 : hn' ≤ 8 := by omega
              have HT := Lib.hid hT; have HX1 := Lib.hid hO1; have HX2 := Lib.hid hFE; have HX3 := Lib.hid hO2; have HINV := Lib.hid hinv2; have HLL := Lib.hid hF; have HL6 : Hid ((fillS (takeS s2) (x : Int) b).ln.length ≤ 64) := by show _ ≤ _; omega
              clear hT hO1 hFE hO2 hinv2 hX hE hl hinv hF hF2
              refine HT.out.mono ?_
              rintro e4 w4 ⟨rfl, hd4⟩
              have HO4 := Lib.hid (HO.out.only hd4.2 (fun kk hk h => h.2 hk)); have HB4 := Lib.hid (HBW.out.trans (hd4.below HIN.out.1)); have HI4 := Lib.hid hd4.1
              clear hd4 HT
              go_wp2
              refine region_objs (by kernel_rfl) (fun _ _ => True)
                [.val (.int .i64 0),
                 .val (.bool false),
                 .val (.bool false),
                 .val (.pointer (some ⟨p, 0, none⟩)),
                 .val (.int .i64 (x : Int)),
                 .val (.string ⟨#[]⟩),
                 .val (.bool false),
                 .val (.bool false),
                 .val (.bool false),
                 .val (.pointer (some ⟨p, 0, none⟩)),
                 .val (.int .i64 (x : Int)),
                 .val (.slice Aj nb cj),
                 .val (.int .i64 0),
                 .val (.bool false),
                 .val (.bool false),
                 .val (.bool false),
                 .val (.pointer (some ⟨p, 0, none⟩)),
                 .val (.int .i64 (x : Int)),
                 .val (.string ⟨b.toArray⟩),
                 .val (.slice Aj nb cj),
                 .val (.string ⟨b.toArray⟩),
                 .val (.bool false),
                 .val (.bool false)]
                (⟨12, fun W => In w.heap.size (fun q => (Value.slice (some ⟨g, off, none⟩) hn' 0).ownBlock = some q) W p (takeS s2) ∧ Own W 3 1 (.slice (some ⟨g, off, none⟩) hn' 0) hn' (H'.map nV) ∧ Below w.heap.size w W, fun W => In w.heap.size (fun q => (Value.slice (some ⟨g, off, none⟩) hn' 0).ownBlock = some q) W p (fillS (takeS s2) (x : Int) b) ∧ Own W 3 1 (.slice (some ⟨g, off, none⟩) hn' 0) hn' (H'.map nV) ∧ Below w.heap.size w W⟩) (⟨12, fun _ => True, fun _ => True⟩) (fun _ => trivial) (fun _ _ _ _ _ => trivial) (by kernel_rfl) (⟨HI4.out.drewN 1, HO4.out.drewN 1, below_drewN HB4.out 1⟩) (trivial) ⟨Nat.le_of_ble_eq_true rfl, Nat.le_of_ble_eq_true rfl⟩ ?_ ?_
              · refine ⟨?_, ?_, ?_, ?_, ?_, ?_, ?_, ?_, ?_, ?_, ?_, ?_, ?_, ?_, ?_, ?_, ?_, ?_, ?_, ?_, ?_, ?_, ?_, trivial⟩
                · intro ra RW hR hsA hsB hk hd K hK
                  have SA := Lib.hid hsA
                  have SB := Lib.hid hsB
                  clear hsA hsB
                  obtain ⟨e12, g12⟩ := hk 12 (.int .i64 0) (by kernel_rfl) rfl
                  clear hk hd
                  have HR := Lib.hid hR
                  clear hR
                  go_simp
                  exact hK _ _ (trivial) rfl (SA.out.same (Nat.ne_of_beq_eq_false rfl)) (SB.out.same (Nat.ne_of_beq_eq_false rfl))
                · intro ra RW hR hsA hsB hk hd K hK
                  have SA := Lib.hid hsA
                  have SB := Lib.hid hsB
                  clear hsA hsB
                  obtain ⟨v65, e65, g65, f65⟩ := hd 0 65 (by kernel_rfl) rfl
                  have f65 : v65 = .int .i64 0 := f65
                  subst f65
                  clear hk hd
                  have HR := Lib.hid hR
                  clear hR
                  go_simp
                  exact hK _ _ (trivial) rfl (SA.out.same (Nat.ne_of_beq_eq_false rfl)) (SB.out.same (Nat.ne_of_beq_eq_false rfl))
                · intro ra RW hR hsA hsB hk hd K hK
                  have SA := Lib.hid hsA
                  have SB := Lib.hid hsB
                  clear hsA hsB
                  obtain ⟨v66, e66, g66, f66⟩ := hd 1 66 (by kernel_rfl) rfl
                  have f66 : v66 = .bool false := f66
                  subst f66
                  clear hk hd
                  have HR := Lib.hid hR
                  clear hR
                  go_simp
                  exact hK _ _ (trivial) rfl (SA.out.same (Nat.ne_of_beq_eq_false rfl)) (SB.out.same (Nat.ne_of_beq_eq_false rfl))
                · intro ra RW hR hsA hsB hk hd K hK
                  have SA := Lib.hid hsA
                  have SB := Lib.hid hsB
                  clear hsA hsB
                  obtain ⟨e6, g6⟩ := hk 6 (.pointer (some ⟨p, 0, none⟩)) (by kernel_rfl) rfl
                  obtain ⟨v67, e67, g67, f67⟩ := hd 2 67 (by kernel_rfl) rfl
                  have f67 : v67 = .bool false := f67
                  subst f67
                  clear hk hd
                  have HR := Lib.hid hR
                  clear hR
                  go_simp
                  exact hK _ _ (trivial) rfl (SA.out.same (Nat.ne_of_beq_eq_false rfl)) (SB.out.same (Nat.ne_of_beq_eq_false rfl))
                · intro ra RW hR hsA hsB hk hd K hK
                  have SA := Lib.hid hsA
                  have SB := Lib.hid hsB
                  clear hsA hsB
                  obtain ⟨e11, g11⟩ := hk 11 (.int .i64 (x : Int)) (by kernel_rfl) rfl
                  obtain ⟨v67, e67, g67, f67⟩ := hd 2 67 (by kernel_rfl) rfl
                  have f67 : v67 = .bool false := f67
                  subst f67
                  clear hk hd
                  have HR := Lib.hid hR
                  clear hR
                  go_simp
                  exact hK _ _ (trivial) rfl (SA.out.same (Nat.ne_of_beq_eq_false rfl)) (SB.out.same (Nat.ne_of_beq_eq_false rfl))
                · intro ra RW hR hsA hsB hk hd K hK
                  have SA := Lib.hid hsA
                  have SB := Lib.hid hsB
                  clear hsA hsB
                  obtain ⟨v68, e68, g68, f68⟩ := hd 3 68 (by kernel_rfl) rfl
                  have f68 : v68 = .pointer (some ⟨p, 0, none⟩) := f68
                  subst f68
                  obtain ⟨v69, e69, g69, f69⟩ := hd 4 69 (by kernel_rfl) rfl
                  have f69 : v69 = .int .i64 (x : Int) := f69
                  subst f69
                  obtain ⟨v67, e67, g67, f67⟩ := hd 2 67 (by kernel_rfl) rfl
                  have f67 : v67 = .bool false := f67
                  subst f67
                  clear hk hd
                  have HR := Lib.hid hR
                  clear hR
                  go_simp
                  refine (octets_in (x : Int) (SA.out.early (by kernel_rfl)).1).mono ?_
                  rintro e w2 ⟨rfl, rfl⟩
                  rw [HX1.out]
                  exact hK _ _ trivial rfl (SA.out.same (Nat.ne_of_beq_eq_false rfl)) (SB.out.same (Nat.ne_of_beq_eq_false rfl))
                · intro ra RW hR hsA hsB hk hd K hK
                  have SA := Lib.hid hsA
                  have SB := Lib.hid hsB
                  clear hsA hsB
                  obtain ⟨v70, e70, g70, f70⟩ := hd 5 70 (by kernel_rfl) rfl
                  have f70 : v70 = .string ⟨#[]⟩ := f70
                  subst f70
                  obtain ⟨v67, e67, g67, f67⟩ := hd 2 67 (by kernel_rfl) rfl
                  have f67 : v67 = .bool false := f67
                  subst f67
                  clear hk hd
                  have HR := Lib.hid hR
                  clear hR
                  go_simp
                  exact hK _ _ (trivial) rfl (SA.out.same (Nat.ne_of_beq_eq_false rfl)) (SB.out.same (Nat.ne_of_beq_eq_false rfl))
                · intro ra RW hR hsA hsB hk hd K hK
                  have SA := Lib.hid hsA
                  have SB := Lib.hid hsB
                  clear hsA hsB
                  obtain ⟨v67, e67, g67, f67⟩ := hd 2 67 (by kernel_rfl) rfl
                  have f67 : v67 = .bool false := f67
                  subst f67
                  obtain ⟨v71, e71, g71, f71⟩ := hd 6 71 (by kernel_rfl) rfl
                  have f71 : v71 = .bool false := f71
                  subst f71
                  clear hk hd
                  have HR := Lib.hid hR
                  clear hR
                  go_simp
                  exact hK _ _ (trivial) rfl (SA.out.same (Nat.ne_of_beq_eq_false rfl)) (SB.out.same (Nat.ne_of_beq_eq_false rfl))
                · intro ra RW hR hsA hsB hk hd K hK
                  have SA := Lib.hid hsA
                  have SB := Lib.hid hsB
                  clear hsA hsB
                  obtain ⟨v72, e72, g72, f72⟩ := hd 7 72 (by kernel_rfl) rfl
                  have f72 : v72 = .bool false := f72
                  subst f72
                  clear hk hd
                  have HR := Lib.hid hR
                  clear hR
                  go_simp
                  exact hK _ _ (trivial) rfl (SA.out.same (Nat.ne_of_beq_eq_false rfl)) (SB.out.same (Nat.ne_of_beq_eq_false rfl))
                · intro ra RW hR hsA hsB hk hd K hK
                  have SA := Lib.hid hsA
                  have SB := Lib.hid hsB
                  clear hsA hsB
                  obtain ⟨e6, g6⟩ := hk 6 (.pointer (some ⟨p, 0, none⟩)) (by kernel_rfl) rfl
                  obtain ⟨v73, e73, g73, f73⟩ := hd 8 73 (by kernel_rfl) rfl
                  have f73 : v73 = .bool false := f73
                  subst f73
                  clear hk hd
                  have HR := Lib.hid hR
                  clear hR
                  go_simp
                  exact hK _ _ (trivial) rfl (SA.out.same (Nat.ne_of_beq_eq_false rfl)) (SB.out.same (Nat.ne_of_beq_eq_false rfl))
                · intro ra RW hR hsA hsB hk hd K hK
                  have SA := Lib.hid hsA
                  have SB := Lib.hid hsB
                  clear hsA hsB
                  obtain ⟨e11, g11⟩ := hk 11 (.int .i64 (x : Int)) (by kernel_rfl) rfl
                  obtain ⟨v73, e73, g73, f73⟩ := hd 8 73 (by kernel_rfl) rfl
                  have f73 : v73 = .bool false := f73
                  subst f73
                  clear hk hd
                  have HR := Lib.hid hR
                  clear hR
                  go_simp
                  exact hK _ _ (trivial) rfl (SA.out.same (Nat.ne_of_beq_eq_false rfl)) (SB.out.same (Nat.ne_of_beq_eq_false rfl))
                · intro ra RW hR hsA hsB hk hd K hK
                  have SA := Lib.hid hsA
                  have SB := Lib.hid hsB
                  clear hsA hsB
                  obtain ⟨e10, g10⟩ := hk 10 (.slice Aj nb cj) (by kernel_rfl) rfl
                  obtain ⟨v73, e73, g73, f73⟩ := hd 8 73 (by kernel_rfl) rfl
                  have f73 : v73 = .bool false := f73
                  subst f73
                  clear hk hd
                  have HR := Lib.hid hR
                  clear hR
                  go_simp
                  exact hK _ _ (trivial) rfl (SA.out.same (Nat.ne_of_beq_eq_false rfl)) (SB.out.same (Nat.ne_of_beq_eq_false rfl))
                · intro ra RW hR hsA hsB hk hd K hK
                  have SA := Lib.hid hsA
                  have SB := Lib.hid hsB
                  clear hsA hsB
                  obtain ⟨v74, e74, g74, f74⟩ := hd 9 74 (by kernel_rfl) rfl
                  have f74 : v74 = .pointer (some ⟨p, 0, none⟩) := f74
                  subst f74
                  obtain ⟨v75, e75, g75, f75⟩ := hd 10 75 (by kernel_rfl) rfl
                  have f75 : v75 = .int .i64 (x : Int) := f75
                  subst f75
                  obtain ⟨v76, e76, g76, f76⟩ := hd 11 76 (by kernel_rfl) rfl
                  have f76 : v76 = .slice Aj nb cj := f76
                  subst f76
                  obtain ⟨v73, e73, g73, f73⟩ := hd 8 73 (by kernel_rfl) rfl
                  have f73 : v73 = .bool false := f73
                  subst f73
                  clear hk hd
                  have HR := Lib.hid hR
                  clear hR
                  go_simp
                  refine (fill_in (x : Int) Aj nb cj _ b (SA.out.self rfl).1 (HRb.out.below (SA.out.self rfl).2.2) (SA.out.self rfl).2.2.size).mono ?_
                  rintro e w2 ⟨rfl, hd⟩
                  rw [HX2.out]
                  exact hK _ _ trivial rfl (SideOut.self rfl ⟨hd.1, (SA.out.self rfl).2.1.only hd.2 (fun kk hk h => h.2 hk), (SA.out.self rfl).2.2.trans (hd.below (SA.out.self rfl).1.1)⟩) (SideOut.self rfl trivial)
                · intro ra RW hR hsA hsB hk hd K hK
                  have SA := Lib.hid hsA
                  have SB := Lib.hid hsB
                  clear hsA hsB
                  obtain ⟨v77, e77, g77, f77⟩ := hd 12 77 (by kernel_rfl) rfl
                  have f77 : v77 = .int .i64 0 := f77
                  subst f77
                  obtain ⟨v73, e73, g73, f73⟩ := hd 8 73 (by kernel_rfl) rfl
                  have f73 : v73 = .bool false := f73
                  subst f73
                  clear hk hd
                  have HR := Lib.hid hR
                  clear hR
                  go_simp
                  exact hK _ _ (trivial) rfl (SA.out.same (Nat.ne_of_beq_eq_false rfl)) (SB.out.same (Nat.ne_of_beq_eq_false rfl))
                · intro ra RW hR hsA hsB hk hd K hK
                  have SA := Lib.hid hsA
                  have SB := Lib.hid hsB
                  clear hsA hsB
                  obtain ⟨v73, e73, g73, f73⟩ := hd 8 73 (by kernel_rfl) rfl
                  have f73 : v73 = .bool false := f73
                  subst f73
                  obtain ⟨v78, e78, g78, f78⟩ := hd 13 78 (by kernel_rfl) rfl
                  have f78 : v78 = .bool false := f78
                  subst f78
                  clear hk hd
                  have HR := Lib.hid hR
                  clear hR
                  go_simp
                  exact hK _ _ (trivial) rfl (SA.out.same (Nat.ne_of_beq_eq_false rfl)) (SB.out.same (Nat.ne_of_beq_eq_false rfl))
                · intro ra RW hR hsA hsB hk hd K hK
                  have SA := Lib.hid hsA
                  have SB := Lib.hid hsB
                  clear hsA hsB
                  obtain ⟨v79, e79, g79, f79⟩ := hd 14 79 (by kernel_rfl) rfl
                  have f79 : v79 = .bool false := f79
                  subst f79
                  clear hk hd
                  have HR := Lib.hid hR
                  clear hR
                  go_simp
                  exact hK _ _ (trivial) rfl (SA.out.same (Nat.ne_of_beq_eq_false rfl)) (SB.out.same (Nat.ne_of_beq_eq_false rfl))
                · intro ra RW hR hsA hsB hk hd K hK
                  have SA := Lib.hid hsA
                  have SB := Lib.hid hsB
                  clear hsA hsB
                  obtain ⟨e6, g6⟩ := hk 6 (.pointer (some ⟨p, 0, none⟩)) (by kernel_rfl) rfl
                  obtain ⟨v80, e80, g80, f80⟩ := hd 15 80 (by kernel_rfl) rfl
                  have f80 : v80 = .bool false := f80
                  subst f80
                  clear hk hd
                  have HR := Lib.hid hR
                  clear hR
                  go_simp
                  exact hK _ _ (trivial) rfl (SA.out.same (Nat.ne_of_beq_eq_false rfl)) (SB.out.same (Nat.ne_of_beq_eq_false rfl))
                · intro ra RW hR hsA hsB hk hd K hK
                  have SA := Lib.hid hsA
                  have SB := Lib.hid hsB
                  clear hsA hsB
                  obtain ⟨e11, g11⟩ := hk 11 (.int .i64 (x : Int)) (by kernel_rfl) rfl
                  obtain ⟨v80, e80, g80, f80⟩ := hd 15 80 (by kernel_rfl) rfl
                  have f80 : v80 = .bool false := f80
                  subst f80
                  clear hk hd
                  have HR := Lib.hid hR
                  clear hR
                  go_simp
                  exact hK _ _ (trivial) rfl (SA.out.same (Nat.ne_of_beq_eq_false rfl)) (SB.out.same (Nat.ne_of_beq_eq_false rfl))
                · intro ra RW hR hsA hsB hk hd K hK
                  have SA := Lib.hid hsA
                  have SB := Lib.hid hsB
                  clear hsA hsB
                  obtain ⟨v81, e81, g81, f81⟩ := hd 16 81 (by kernel_rfl) rfl
                  have f81 : v81 = .pointer (some ⟨p, 0, none⟩) := f81
                  subst f81
                  obtain ⟨v82, e82, g82, f82⟩ := hd 17 82 (by kernel_rfl) rfl
                  have f82 : v82 = .int .i64 (x : Int) := f82
                  subst f82
                  obtain ⟨v80, e80, g80, f80⟩ := hd 15 80 (by kernel_rfl) rfl
                  have f80 : v80 = .bool false := f80
                  subst f80
                  clear hk hd
                  have HR := Lib.hid hR
                  clear hR
                  go_simp
                  refine (octets_in (x : Int) (SA.out.late (Nat.ne_of_beq_eq_false rfl) (by kernel_rfl) (by kernel_rfl)).1).mono ?_
                  rintro e w2 ⟨rfl, rfl⟩
                  rw [HX3.out]
                  exact hK _ _ trivial rfl (SA.out.same (Nat.ne_of_beq_eq_false rfl)) (SB.out.same (Nat.ne_of_beq_eq_false rfl))
                · intro ra RW hR hsA hsB hk hd K hK
                  have SA := Lib.hid hsA
                  have SB := Lib.hid hsB
                  clear hsA hsB
                  obtain ⟨e10, g10⟩ := hk 10 (.slice Aj nb cj) (by kernel_rfl) rfl
                  obtain ⟨v80, e80, g80, f80⟩ := hd 15 80 (by kernel_rfl) rfl
                  have f80 : v80 = .bool false := f80
                  subst f80
                  clear hk hd
                  have HR := Lib.hid hR
                  clear hR
                  go_simp
                  exact hK _ _ (trivial) rfl (SA.out.same (Nat.ne_of_beq_eq_false rfl)) (SB.out.same (Nat.ne_of_beq_eq_false rfl))
                · intro ra RW hR hsA hsB hk hd K hK
                  have SA := Lib.hid hsA
                  have SB := Lib.hid hsB
                  clear hsA hsB
                  obtain ⟨v84, e84, g84, f84⟩ := hd 19 84 (by kernel_rfl) rfl
                  have f84 : v84 = .slice Aj nb cj := f84
                  subst f84
                  obtain ⟨v80, e80, g80, f80⟩ := hd 15 80 (by kernel_rfl) rfl
                  have f80 : v80 = .bool false := f80
                  subst f80
                  clear hk hd
                  have HR := Lib.hid hR
                  clear hR
                  go_simp
                  rw [conv_rd (HRb.out.below (SA.out.late (Nat.ne_of_beq_eq_false rfl) (by kernel_rfl) (by kernel_rfl)).2.2)]
                  go_simp
                  exact hK _ _ trivial rfl (SA.out.same (Nat.ne_of_beq_eq_false rfl)) (SB.out.same (Nat.ne_of_beq_eq_false rfl))
                · intro ra RW hR hsA hsB hk hd K hK
                  have SA := Lib.hid hsA
                  have SB := Lib.hid hsB
                  clear hsA hsB
                  obtain ⟨v83, e83, g83, f83⟩ := hd 18 83 (by kernel_rfl) rfl
                  have f83 : v83 = .string ⟨b.toArray⟩ := f83
                  subst f83
                  obtain ⟨v85, e85, g85, f85⟩ := hd 20 85 (by kernel_rfl) rfl
                  have f85 : v85 = .string ⟨b.toArray⟩ := f85
                  subst f85
                  obtain ⟨v80, e80, g80, f80⟩ := hd 15 80 (by kernel_rfl) rfl
                  have f80 : v80 = .bool false := f80
                  subst f80
                  clear hk hd
                  have HR := Lib.hid hR
                  clear hR
                  go_simp
                  exact hK _ _ (trivial) rfl (SA.out.same (Nat.ne_of_beq_eq_false rfl)) (SB.out.same (Nat.ne_of_beq_eq_false rfl))
                · intro ra RW hR hsA hsB hk hd K hK
                  have SA := Lib.hid hsA
                  have SB := Lib.hid hsB
                  clear hsA hsB
                  obtain ⟨v80, e80, g80, f80⟩ := hd 15 80 (by kernel_rfl) rfl
                  have f80 : v80 = .bool false := f80
                  subst f80
                  obtain ⟨v86, e86, g86, f86⟩ := hd 21 86 (by kernel_rfl) rfl
                  have f86 : v86 = .bool false := f86
                  subst f86
                  clear hk hd
                  have HR := Lib.hid hR
                  clear hR
                  go_simp
                  exact hK _ _ (trivial) rfl (SA.out.same (Nat.ne_of_beq_eq_false rfl)) (SB.out.same (Nat.ne_of_beq_eq_false rfl))
              intro vs RW hR hpA hpB hF
              have q0 : vs 0 = .int .i64 0 := hF 0 (by decide)
              have q1 : vs 1 = .bool false := hF 1 (by decide)
              have q2 : vs 2 = .bool false := hF 2 (by decide)
              have q3 : vs 3 = .pointer (some ⟨p, 0, none⟩) := hF 3 (by decide)
              have q4 : vs 4 = .int .i64 (x : Int) := hF 4 (by decide)
              have q5 : vs 5 = .string ⟨#[]⟩ := hF 5 (by decide)
              have q6 : vs 6 = .bool false := hF 6 (by decide)
              have q7 : vs 7 = .bool false := hF 7 (by decide)
              have q8 : vs 8 = .bool false := hF 8 (by decide)
              have q9 : vs 9 = .pointer (some ⟨p, 0, none⟩) := hF 9 (by decide)
              have q10 : vs 10 = .int .i64 (x : Int) := hF 10 (by decide)
              have q11 : vs 11 = .slice Aj nb cj := hF 11 (by decide)
              have q12 : vs 12 = .int .i64 0 := hF 12 (by decide)
              have q13 : vs 13 = .bool false := hF 13 (by decide)
              have q14 : vs 14 = .bool false := hF 14 (by decide)
              have q15 : vs 15 = .bool false := hF 15 (by decide)
              have q16 : vs 16 = .pointer (some ⟨p, 0, none⟩) := hF 16 (by decide)
              have q17 : vs 17 = .int .i64 (x : Int) := hF 17 (by decide)
              have q18 : vs 18 = .string ⟨b.toArray⟩ := hF 18 (by decide)
              have q19 : vs 19 = .slice Aj nb cj := hF 19 (by decide)
              have q20 : vs 20 = .string ⟨b.toArray⟩ := hF 20 (by decide)
              have q21 : vs 21 = .bool false := hF 21 (by decide)
              have q22 : vs 22 = .bool false := hF 22 (by decide)
              simp only [setAll, List.setIfInBounds_toArray, List.set_cons_zero, List.set_cons_succ, q0, q1, q2, q3, q4, q5, q6, q7, q8, q9, q10, q11, q12, q13, q14, q15, q16, q17, q18, q19, q20, q21, q22]
              clear hF q0 q1 q2 q3 q4 q5 q6 q7 q8 q9 q10 q11 q12 q13 q14 q15 q16 q17 q18 q19 q20 q21 q22
              clear vs
              obtain ⟨hi5, ho5, hb5⟩ := hpA
              have HI5 := Lib.hid hi5; have HO5 := Lib.hid ho5; have HB5 := Lib.hid hb5
              clear hi5 ho5 hb5 hpB hR
              go_wp2_with (first
                | (go_at_call 14; refine (hFr _ _ _ HI6.out HL6.out).mono ?_; rintro e7 w7 ⟨v7, rfl, hnew7⟩; have HB7 := Lib.hid (below_trans HB6.out hnew7.2.1); have HI7 := Lib.hid (HI6.out.below hnew7.2.1); have HO7 := Lib.hid (HO6.out.below hnew7.2.1 fun _ hk => HO6.out.lt hk); obtain ⟨A7, c7, rfl, -⟩ := newI_own hnew7; rw [List.length_map, HLL.out]; clear hnew7)
                | (at_builtin; refine wpList_append_mine _ rfl (.tmp 88) (.tmp 90) _ rfl 3 i0 _ 1 8 Try.underlying30 hi0 hz0 hz1 hz2 rfl (by omega) (.slice (some ⟨g, off, none⟩) hn' 0) hn' (H'.map nV) rfl (by exact HO5.out.alloc _) _ 1 1 [_] rfl rfl (by exact news_push rfl rfl) (by simp [Value.oneCell']) (by omega) (by simp only [maxLen]; omega) (by omega) _ rfl ?_; intro g6 o6 c6 w6 hown6 hgrow6 hat6; have hgl6 : g6 < w6.heap.size := hown6.lt rfl; have HI6 := Lib.hid (HI5.out.push (n := hn' + 1) (off := o6) (c := c6) _ hgrow6 hat6 hgl6); have HB6 := Lib.hid (Below.grown (HB5.out.alloc HB5.out.size _) hgrow6 (by have := HB5.out.size; simp; omega) (fun q hq => HNW.out q hq)); have HN6 := Lib.hid (push_new (off := o6) (n := hn' + 1) (c := c6) HNW.out HB5.out.size hat6); have HO6 := Lib.hid (push_own hHl hown6); clear hown6 hgrow6 hat6))
              go_roundw
              case rel => exact ⟨j + 1, _, H' ++ [x], by omega, by go_num, HINV.out, HB7.out, by rw [List.length_append, hHl]; exact HO7.out, HN6.out, HI7.out⟩
              case measure => simp [intOf]; omega
            · go_wp2_with (go_at_call 11; refine HD.out.mono ?_; rintro e3 w3 ⟨rfl, hd3⟩; have HOT : Own w3 3 1 (.slice (some ⟨g, off + 1, none⟩) hn' c') hn' (H'.map nV) := (by have h := HTL.out.only hd3.2 (fun kk hk h => h.2 (by rw [if_neg hc1] at hk; simpa [Value.ownBlock] using hk)); rw [if_neg hc1] at h; simpa using h); have HBW := Lib.hid (HB0.out.trans (hd3.below HI0.out.1)); have HI3 := Lib.hid hd3.1; clear hd3)
              have HO := Lib.hid HOT
              clear HOT
              have HIN : Hid (In w.heap.size (fun q => (Value.slice (some ⟨g, off + 1, none⟩) hn' c').ownBlock = some q) w3 p s2) := HI3.out
              have HNW : Hid (∀ q, (Value.slice (some ⟨g, off + 1, none⟩) hn' c').ownBlock = some q → w.heap.size ≤ q) := HNW.out
              obtain ⟨x, t, hl⟩ : ∃ x t, s2.ln = x :: t := by
                cases hs : s2.ln with
                | nil => have := hinv.len; rw [hs] at this; simp at this; omega
                | cons x t => exact ⟨x, t, rfl⟩
              obtain ⟨hX, hE, hO1, hFE, hO2, hinv2⟩ := hinv.take hl b (by omega)
              have hT := take_in HIN.out (fun q hq => by rw [hinv.n]; exact hinv.lt q (by simp [hq]))
              rw [hX, hE] at hT
              unfold pp at hT
              obtain ⟨F, hF⟩ : ∃ F, (fillS (takeS s2) (x : Int) b).ln.length = F := ⟨_, rfl⟩
              have hF2 : hn' + 1 + F = K := by have := hinv2.len; simp at this; omega
              have k6 : ((hn' : Int) + 1 + (F : Int) != (K : Int)) = false := by simp; omega
              have k7 : F ≤ 8 := by omega
              have k8 : hn' ≤ 8 := by omega
              have HT := Lib.hid hT; have HX1 := Lib.hid hO1; have HX2 := Lib.hid hFE; have HX3 := Lib.hid hO2; have HINV := Lib.hid hinv2; have HLL := Lib.hid hF; have HL6 : Hid ((fillS (takeS s2) (x : Int) b).ln.length ≤ 64) := by show _ ≤ _; omega
              clear hT hO1 hFE hO2 hinv2 hX hE hl hinv hF hF2
              refine HT.out.mono ?_
              rintro e4 w4 ⟨rfl, hd4⟩
              have HO4 := Lib.hid (HO.out.only hd4.2 (fun kk hk h => h.2 hk)); have HB4 := Lib.hid (HBW.out.trans (hd4.below HIN.out.1)); have HI4 := Lib.hid hd4.1
              clear hd4 HT
              go_wp2
              refine region_objs (by kernel_rfl) (fun _ _ => True)
                [.val (.int .i64 0),
                 .val (.bool false),
                 .val (.bool false),
                 .val (.pointer (some ⟨p, 0, none⟩)),
                 .val (.int .i64 (x : Int)),
                 .val (.string ⟨#[]⟩),
                 .val (.bool false),
                 .val (.bool false),
                 .val (.bool false),
                 .val (.pointer (some ⟨p, 0, none⟩)),
                 .val (.int .i64 (x : Int)),
                 .val (.slice Aj nb cj),
                 .val (.int .i64 0),
                 .val (.bool false),
                 .val (.bool false),
                 .val (.bool false),
                 .val (.pointer (some ⟨p, 0, none⟩)),
                 .val (.int .i64 (x : Int)),
                 .val (.string ⟨b.toArray⟩),
                 .val (.slice Aj nb cj),
                 .val (.string ⟨b.toArray⟩),
                 .val (.bool false),
                 .val (.bool false)]
                (⟨12, fun W => In w.heap.size (fun q => (Value.slice (some ⟨g, off + 1, none⟩) hn' c').ownBlock = some q) W p (takeS s2) ∧ Own W 3 1 (.slice (some ⟨g, off + 1, none⟩) hn' c') hn' (H'.map nV) ∧ Below w.heap.size w W, fun W => In w.heap.size (fun q => (Value.slice (some ⟨g, off + 1, none⟩) hn' c').ownBlock = some q) W p (fillS (takeS s2) (x : Int) b) ∧ Own W 3 1 (.slice (some ⟨g, off + 1, none⟩) hn' c') hn' (H'.map nV) ∧ Below w.heap.size w W⟩) (⟨12, fun _ => True, fun _ => True⟩) (fun _ => trivial) (fun _ _ _ _ _ => trivial) (by kernel_rfl) (⟨HI4.out.drewN 1, HO4.out.drewN 1, below_drewN HB4.out 1⟩) (trivial) ⟨Nat.le_of_ble_eq_true rfl, Nat.le_of_ble_eq_true rfl⟩ ?_ ?_
              · refine ⟨?_, ?_, ?_, ?_, ?_, ?_, ?_, ?_, ?_, ?_, ?_, ?_, ?_, ?_, ?_, ?_, ?_, ?_, ?_, ?_, ?_, ?_, ?_, trivial⟩
                · intro ra RW hR hsA hsB hk hd K hK
                  have SA := Lib.hid hsA
                  have SB := Lib.hid hsB
                  clear hsA hsB
                  obtain ⟨e12, g12⟩ := hk 12 (.int .i64 0) (by kernel_rfl) rfl
                  clear hk hd
                  have HR := Lib.hid hR
                  clear hR
                  go_simp
                  exact hK _ _ (trivial) rfl (SA.out.same (Nat.ne_of_beq_eq_false rfl)) (SB.out.same (Nat.ne_of_beq_eq_false rfl))
                · intro ra RW hR hsA hsB hk hd K hK
                  have SA := Lib.hid hsA
                  have SB := Lib.hid hsB
                  clear hsA hsB
                  obtain ⟨v65, e65, g65, f65⟩ := hd 0 65 (by kernel_rfl) rfl
                  have f65 : v65 = .int .i64 0 := f65
                  subst f65
                  clear hk hd
                  have HR := Lib.hid hR
                  clear hR
                  go_simp
                  exact hK _ _ (trivial) rfl (SA.out.same (Nat.ne_of_beq_eq_false rfl)) (SB.out.same (Nat.ne_of_beq_eq_false rfl))
                · intro ra RW hR hsA hsB hk hd K hK
                  have SA := Lib.hid hsA
                  have SB := Lib.hid hsB
                  clear hsA hsB
                  obtain ⟨v66, e66, g66, f66⟩ := hd 1 66 (by kernel_rfl) rfl
                  have f66 : v66 = .bool false := f66
                  subst f66
                  clear hk hd
                  have HR := Lib.hid hR
                  clear hR
                  go_simp
                  exact hK _ _ (trivial) rfl (SA.out.same (Nat.ne_of_beq_eq_false rfl)) (SB.out.same (Nat.ne_of_beq_eq_false rfl))
                · intro ra RW hR hsA hsB hk hd K hK
                  have SA := Lib.hid hsA
                  have SB := Lib.hid hsB
                  clear hsA hsB
                  obtain ⟨e6, g6⟩ := hk 6 (.pointer (some ⟨p, 0, none⟩)) (by kernel_rfl) rfl
                  obtain ⟨v67, e67, g67, f67⟩ := hd 2 67 (by kernel_rfl) rfl
                  have f67 : v67 = .bool false := f67
                  subst f67
                  clear hk hd
                  have HR := Lib.hid hR
                  clear hR
                  go_simp
                  exact hK _ _ (trivial) rfl (SA.out.same (Nat.ne_of_beq_eq_false rfl)) (SB.out.same (Nat.ne_of_beq_eq_false rfl))
                · intro ra RW hR hsA hsB hk hd K hK
                  have SA := Lib.hid hsA
                  have SB := Lib.hid hsB
                  clear hsA hsB
                  obtain ⟨e11, g11⟩ := hk 11 (.int .i64 (x : Int)) (by kernel_rfl) rfl
                  obtain ⟨v67, e67, g67, f67⟩ := hd 2 67 (by kernel_rfl) rfl
                  have f67 : v67 = .bool false := f67
                  subst f67
                  clear hk hd
                  have HR := Lib.hid hR
                  clear hR
                  go_simp
                  exact hK _ _ (trivial) rfl (SA.out.same (Nat.ne_of_beq_eq_false rfl)) (SB.out.same (Nat.ne_of_beq_eq_false rfl))
                · intro ra RW hR hsA hsB hk hd K hK
                  have SA := Lib.hid hsA
                  have SB := Lib.hid hsB
                  clear hsA hsB
                  obtain ⟨v68, e68, g68, f68⟩ := hd 3 68 (by kernel_rfl) rfl
                  have f68 : v68 = .pointer (some ⟨p, 0, none⟩) := f68
                  subst f68
                  obtain ⟨v69, e69, g69, f69⟩ := hd 4 69 (by kernel_rfl) rfl
                  have f69 : v69 = .int .i64 (x : Int) := f69
                  subst f69
                  obtain ⟨v67, e67, g67, f67⟩ := hd 2 67 (by kernel_rfl) rfl
                  have f67 : v67 = .bool false := f67
                  subst f67
                  clear hk hd
                  have HR := Lib.hid hR
                  clear hR
                  go_simp
                  refine (octets_in (x : Int) (SA.out.early (by kernel_rfl)).1).mono ?_
                  rintro e w2 ⟨rfl, rfl⟩
                  rw [HX1.out]
                  exact hK _ _ trivial rfl (SA.out.same (Nat.ne_of_beq_eq_false rfl)) (SB.out.same (Nat.ne_of_beq_eq_false rfl))
                · intro ra RW hR hsA hsB hk hd K hK
                  have SA := Lib.hid hsA
                  have SB := Lib.hid hsB
                  clear hsA hsB
                  obtain ⟨v70, e70, g70, f70⟩ := hd 5 70 (by kernel_rfl) rfl
                  have f70 : v70 = .string ⟨#[]⟩ := f70
                  subst f70
                  obtain ⟨v67, e67, g67, f67⟩ := hd 2 67 (by kernel_rfl) rfl
                  have f67 : v67 = .bool false := f67
                  subst f67
                  clear hk hd
                  have HR := Lib.hid hR
                  clear hR
                  go_simp
                  exact hK _ _ (trivial) rfl (SA.out.same (Nat.ne_of_beq_eq_false rfl)) (SB.out.same (Nat.ne_of_beq_eq_false rfl))
                · intro ra RW hR hsA hsB hk hd K hK
                  have SA := Lib.hid hsA
                  have SB := Lib.hid hsB
                  clear hsA hsB
                  obtain ⟨v67, e67, g67, f67⟩ := hd 2 67 (by kernel_rfl) rfl
                  have f67 : v67 = .bool false := f67
                  subst f67
                  obtain ⟨v71, e71, g71, f71⟩ := hd 6 71 (by kernel_rfl) rfl
                  have f71 : v71 = .bool false := f71
                  subst f71
                  clear hk hd
                  have HR := Lib.hid hR
                  clear hR
                  go_simp
                  exact hK _ _ (trivial) rfl (SA.out.same (Nat.ne_of_beq_eq_false rfl)) (SB.out.same (Nat.ne_of_beq_eq_false rfl))
                · intro ra RW hR hsA hsB hk hd K hK
                  have SA := Lib.hid hsA
                  have SB := Lib.hid hsB
                  clear hsA hsB
                  obtain ⟨v72, e72, g72, f72⟩ := hd 7 72 (by kernel_rfl) rfl
                  have f72 : v72 = .bool false := f72
                  subst f72
                  clear hk hd
                  have HR := Lib.hid hR
                  clear hR
                  go_simp
                  exact hK _ _ (trivial) rfl (SA.out.same (Nat.ne_of_beq_eq_false rfl)) (SB.out.same (Nat.ne_of_beq_eq_false rfl))
                · intro ra RW hR hsA hsB hk hd K hK
                  have SA := Lib.hid hsA
                  have SB := Lib.hid hsB
                  clear hsA hsB
                  obtain ⟨e6, g6⟩ := hk 6 (.pointer (some ⟨p, 0, none⟩)) (by kernel_rfl) rfl
                  obtain ⟨v73, e73, g73, f73⟩ := hd 8 73 (by kernel_rfl) rfl
                  have f73 : v73 = .bool false := f73
                  subst f73
                  clear hk hd
                  have HR := Lib.hid hR
                  clear hR
                  go_simp
                  exact hK _ _ (trivial) rfl (SA.out.same (Nat.ne_of_beq_eq_false rfl)) (SB.out.same (Nat.ne_of_beq_eq_false rfl))
                · intro ra RW hR hsA hsB hk hd K hK
                  have SA := Lib.hid hsA
                  have SB := Lib.hid hsB
                  clear hsA hsB
                  obtain ⟨e11, g11⟩ := hk 11 (.int .i64 (x : Int)) (by kernel_rfl) rfl
                  obtain ⟨v73, e73, g73, f73⟩ := hd 8 73 (by kernel_rfl) rfl
                  have f73 : v73 = .bool false := f73
                  subst f73
                  clear hk hd
                  have HR := Lib.hid hR
                  clear hR
                  go_simp
                  exact hK _ _ (trivial) rfl (SA.out.same (Nat.ne_of_beq_eq_false rfl)) (SB.out.same (Nat.ne_of_beq_eq_false rfl))
                · intro ra RW hR hsA hsB hk hd K hK
                  have SA := Lib.hid hsA
                  have SB := Lib.hid hsB
                  clear hsA hsB
                  obtain ⟨e10, g10⟩ := hk 10 (.slice Aj nb cj) (by kernel_rfl) rfl
                  obtain ⟨v73, e73, g73, f73⟩ := hd 8 73 (by kernel_rfl) rfl
                  have f73 : v73 = .bool false := f73
                  subst f73
                  clear hk hd
                  have HR := Lib.hid hR
                  clear hR
                  go_simp
                  exact hK _ _ (trivial) rfl (SA.out.same (Nat.ne_of_beq_eq_false rfl)) (SB.out.same (Nat.ne_of_beq_eq_false rfl))
                · intro ra RW hR hsA hsB hk hd K hK
                  have SA := Lib.hid hsA
                  have SB := Lib.hid hsB
                  clear hsA hsB
                  obtain ⟨v74, e74, g74, f74⟩ := hd 9 74 (by kernel_rfl) rfl
                  have f74 : v74 = .pointer (some ⟨p, 0, none⟩) := f74
                  subst f74
                  obtain ⟨v75, e75, g75, f75⟩ := hd 10 75 (by kernel_rfl) rfl
                  have f75 : v75 = .int .i64 (x : Int) := f75
                  subst f75
                  obtain ⟨v76, e76, g76, f76⟩ := hd 11 76 (by kernel_rfl) rfl
                  have f76 : v76 = .slice Aj nb cj := f76
                  subst f76
                  obtain ⟨v73, e73, g73, f73⟩ := hd 8 73 (by kernel_rfl) rfl
                  have f73 : v73 = .bool false := f73
                  subst f73
                  clear hk hd
                  have HR := Lib.hid hR
                  clear hR
                  go_simp
                  refine (fill_in (x : Int) Aj nb cj _ b (SA.out.self rfl).1 (HRb.out.below (SA.out.self rfl).2.2) (SA.out.self rfl).2.2.size).mono ?_
                  rintro e w2 ⟨rfl, hd⟩
                  rw [HX2.out]
                  exact hK _ _ trivial rfl (SideOut.self rfl ⟨hd.1, (SA.out.self rfl).2.1.only hd.2 (fun kk hk h => h.2 hk), (SA.out.self rfl).2.2.trans (hd.below (SA.out.self rfl).1.1)⟩) (SideOut.self rfl trivial)
                · intro ra RW hR hsA hsB hk hd K hK
                  have SA := Lib.hid hsA
                  have SB := Lib.hid hsB
                  clear hsA hsB
                  obtain ⟨v77, e77, g77, f77⟩ := hd 12 77 (by kernel_rfl) rfl
                  have f77 : v77 = .int .i64 0 := f77
                  subst f77
                  obtain ⟨v73, e73, g73, f73⟩ := hd 8 73 (by kernel_rfl) rfl
                  have f73 : v73 = .bool false := f73
                  subst f73
                  clear hk hd
                  have HR := Lib.hid hR
                  clear hR
                  go_simp
                  exact hK _ _ (trivial) rfl (SA.out.same (Nat.ne_of_beq_eq_false rfl)) (SB.out.same (Nat.ne_of_beq_eq_false rfl))
                · intro ra RW hR hsA hsB hk hd K hK
                  have SA := Lib.hid hsA
                  have SB := Lib.hid hsB
                  clear hsA hsB
                  obtain ⟨v73, e73, g73, f73⟩ := hd 8 73 (by kernel_rfl) rfl
                  have f73 : v73 = .bool false := f73
                  subst f73
                  obtain ⟨v78, e78, g78, f78⟩ := hd 13 78 (by kernel_rfl) rfl
                  have f78 : v78 = .bool false := f78
                  subst f78
                  clear hk hd
                  have HR := Lib.hid hR
                  clear hR
                  go_simp
                  exact hK _ _ (trivial) rfl (SA.out.same (Nat.ne_of_beq_eq_false rfl)) (SB.out.same (Nat.ne_of_beq_eq_false rfl))
                · intro ra RW hR hsA hsB hk hd K hK
                  have SA := Lib.hid hsA
                  have SB := Lib.hid hsB
                  clear hsA hsB
                  obtain ⟨v79, e79, g79, f79⟩ := hd 14 79 (by kernel_rfl) rfl
                  have f79 : v79 = .bool false := f79
                  subst f79
                  clear hk hd
                  have HR := Lib.hid hR
                  clear hR
                  go_simp
                  exact hK _ _ (trivial) rfl (SA.out.same (Nat.ne_of_beq_eq_false rfl)) (SB.out.same (Nat.ne_of_beq_eq_false rfl))
                · intro ra RW hR hsA hsB hk hd K hK
                  have SA := Lib.hid hsA
                  have SB := Lib.hid hsB
                  clear hsA hsB
                  obtain ⟨e6, g6⟩ := hk 6 (.pointer (some ⟨p, 0, none⟩)) (by kernel_rfl) rfl
                  obtain ⟨v80, e80, g80, f80⟩ := hd 15 80 (by kernel_rfl) rfl
                  have f80 : v80 = .bool false := f80
                  subst f80
                  clear hk hd
                  have HR := Lib.hid hR
                  clear hR
                  go_simp
                  exact hK _ _ (trivial) rfl (SA.out.same (Nat.ne_of_beq_eq_false rfl)) (SB.out.same (Nat.ne_of_beq_eq_false rfl))
                · intro ra RW hR hsA hsB hk hd K hK
                  have SA := Lib.hid hsA
                  have SB := Lib.hid hsB
                  clear hsA hsB
                  obtain ⟨e11, g11⟩ := hk 11 (.int .i64 (x : Int)) (by kernel_rfl) rfl
                  obtain ⟨v80, e80, g80, f80⟩ := hd 15 80 (by kernel_rfl) rfl
                  have f80 : v80 = .bool false := f80
                  subst f80
                  clear hk hd
                  have HR := Lib.hid hR
                  clear hR
                  go_simp
                  exact hK _ _ (trivial) rfl (SA.out.same (Nat.ne_of_beq_eq_false rfl)) (SB.out.same (Nat.ne_of_beq_eq_false rfl))
                · intro ra RW hR hsA hsB hk hd K hK
                  have SA := Lib.hid hsA
                  have SB := Lib.hid hsB
                  clear hsA hsB
                  obtain ⟨v81, e81, g81, f81⟩ := hd 16 81 (by kernel_rfl) rfl
                  have f81 : v81 = .pointer (some ⟨p, 0, none⟩) := f81
                  subst f81
                  obtain ⟨v82, e82, g82, f82⟩ := hd 17 82 (by kernel_rfl) rfl
                  have f82 : v82 = .int .i64 (x : Int) := f82
                  subst f82
                  obtain ⟨v80, e80, g80, f80⟩ := hd 15 80 (by kernel_rfl) rfl
                  have f80 : v80 = .bool false := f80
                  subst f80
                  clear hk hd
                  have HR := Lib.hid hR
                  clear hR
                  go_simp
                  refine (octets_in (x : Int) (SA.out.late (Nat.ne_of_beq_eq_false rfl) (by kernel_rfl) (by kernel_rfl)).1).mono ?_
                  rintro e w2 ⟨rfl, rfl⟩
                  rw [HX3.out]
                  exact hK _ _ trivial rfl (SA.out.same (Nat.ne_of_beq_eq_false rfl)) (SB.out.same (Nat.ne_of_beq_eq_false rfl))
                · intro ra RW hR hsA hsB hk hd K hK
                  have SA := Lib.hid hsA
                  have SB := Lib.hid hsB
                  clear hsA hsB
                  obtain ⟨e10, g10⟩ := hk 10 (.slice Aj nb cj) (by kernel_rfl) rfl
                  obtain ⟨v80, e80, g80, f80⟩ := hd 15 80 (by kernel_rfl) rfl
                  have f80 : v80 = .bool false := f80
                  subst f80
                  clear hk hd
                  have HR := Lib.hid hR
                  clear hR
                  go_simp
                  exact hK _ _ (trivial) rfl (SA.out.same (Nat.ne_of_beq_eq_false rfl)) (SB.out.same (Nat.ne_of_beq_eq_false rfl))
                · intro ra RW hR hsA hsB hk hd K hK
                  have SA := Lib.hid hsA
                  have SB := Lib.hid hsB
                  clear hsA hsB
                  obtain ⟨v84, e84, g84, f84⟩ := hd 19 84 (by kernel_rfl) rfl
                  have f84 : v84 = .slice Aj nb cj := f84
                  subst f84
                  obtain ⟨v80, e80, g80, f80⟩ := hd 15 80 (by kernel_rfl) rfl
                  have f80 : v80 = .bool false := f80
                  subst f80
                  clear hk hd
                  have HR := Lib.hid hR
                  clear hR
                  go_simp
                  rw [conv_rd (HRb.out.below (SA.out.late (Nat.ne_of_beq_eq_false rfl) (by kernel_rfl) (by kernel_rfl)).2.2)]
                  go_simp
                  exact hK _ _ trivial rfl (SA.out.same (Nat.ne_of_beq_eq_false rfl)) (SB.out.same (Nat.ne_of_beq_eq_false rfl))
                · intro ra RW hR hsA hsB hk hd K hK
                  have SA := Lib.hid hsA
                  have SB := Lib.hid hsB
                  clear hsA hsB
                  obtain ⟨v83, e83, g83, f83⟩ := hd 18 83 (by kernel_rfl) rfl
                  have f83 : v83 = .string ⟨b.toArray⟩ := f83
                  subst f83
                  obtain ⟨v85, e85, g85, f85⟩ := hd 20 85 (by kernel_rfl) rfl
                  have f85 : v85 = .string ⟨b.toArray⟩ := f85
                  subst f85
                  obtain ⟨v80, e80, g80, f80⟩ := hd 15 80 (by kernel_rfl) rfl
                  have f80 : v80 = .bool false := f80
                  subst f80
                  clear hk hd
                  have HR := Lib.hid hR
                  clear hR
                  go_simp
                  exact hK _ _ (trivial) rfl (SA.out.same (Nat.ne_of_beq_eq_false rfl)) (SB.out.same (Nat.ne_of_beq_eq_false rfl))
                · intro ra RW hR hsA hsB hk hd K hK
                  have SA := Lib.hid hsA
                  have SB := Lib.hid hsB
                  clear hsA hsB
                  obtain ⟨v80, e80, g80, f80⟩ := hd 15 80 (by kernel_rfl) rfl
                  have f80 : v80 = .bool false := f80
                  subst f80
                  obtain ⟨v86, e86, g86, f86⟩ := hd 21 86 (by kernel_rfl) rfl
                  have f86 : v86 = .bool false := f86
                  subst f86
                  clear hk hd
                  have HR := Lib.hid hR
                  clear hR
                  go_simp
                  exact hK _ _ (trivial) rfl (SA.out.same (Nat.ne_of_beq_eq_false rfl)) (SB.out.same (Nat.ne_of_beq_eq_false rfl))
              intro vs RW hR hpA hpB hF
              have q0 : vs 0 = .int .i64 0 := hF 0 (by decide)
              have q1 : vs 1 = .bool false := hF 1 (by decide)
              have q2 : vs 2 = .bool false := hF 2 (by decide)
              have q3 : vs 3 = .pointer (some ⟨p, 0, none⟩) := hF 3 (by decide)
              have q4 : vs 4 = .int .i64 (x : Int) := hF 4 (by decide)
              have q5 : vs 5 = .string ⟨#[]⟩ := hF 5 (by decide)
              have q6 : vs 6 = .bool false := hF 6 (by decide)
              have q7 : vs 7 = .bool false := hF 7 (by decide)
              have q8 : vs 8 = .bool false := hF 8 (by decide)
              have q9 : vs 9 = .pointer (some ⟨p, 0, none⟩) := hF 9 (by decide)
              have q10 : vs 10 = .int .i64 (x : Int) := hF 10 (by decide)
              have q11 : vs 11 = .slice Aj nb cj := hF 11 (by decide)
              have q12 : vs 12 = .int .i64 0 := hF 12 (by decide)
              have q13 : vs 13 = .bool false := hF 13 (by decide)
              have q14 : vs 14 = .bool false := hF 14 (by decide)
              have q15 : vs 15 = .bool false := hF 15 (by decide)
              have q16 : vs 16 = .pointer (some ⟨p, 0, none⟩) := hF 16 (by decide)
              have q17 : vs 17 = .int .i64 (x : Int) := hF 17 (by decide)
              have q18 : vs 18 = .string ⟨b.toArray⟩ := hF 18 (by decide)
              have q19 : vs 19 = .slice Aj nb cj := hF 19 (by decide)
              have q20 : vs 20 = .string ⟨b.toArray⟩ := hF 20 (by decide)
              have q21 : vs 21 = .bool false := hF 21 (by decide)
              have q22 : vs 22 = .bool false := hF 22 (by decide)
              simp only [setAll, List.setIfInBounds_toArray, List.set_cons_zero, List.set_cons_succ, q0, q1, q2, q3, q4, q5, q6, q7, q8, q9, q10, q11, q12, q13, q14, q15, q16, q17, q18, q19, q20, q21, q22]
              clear hF q0 q1 q2 q3 q4 q5 q6 q7 q8 q9 q10 q11 q12 q13 q14 q15 q16 q17 q18 q19 q20 q21 q22
              clear vs
              obtain ⟨hi5, ho5, hb5⟩ := hpA
              have HI5 := Lib.hid hi5; have HO5 := Lib.hid ho5; have HB5 := Lib.hid hb5
              clear hi5 ho5 hb5 hpB hR
              go_wp2_with (first
                | (go_at_call 14; refine (hFr _ _ _ HI6.out HL6.out).mono ?_; rintro e7 w7 ⟨v7, rfl, hnew7⟩; have HB7 := Lib.hid (below_trans HB6.out hnew7.2.1); have HI7 := Lib.hid (HI6.out.below hnew7.2.1); have HO7 := Lib.hid (HO6.out.below hnew7.2.1 fun _ hk => HO6.out.lt hk); obtain ⟨A7, c7, rfl, -⟩ := newI_own hnew7; rw [List.length_map, HLL.out]; clear hnew7)
                | (at_builtin; refine wpList_append_mine _ rfl (.tmp 88) (.tmp 90) _ rfl 3 i0 _ 1 8 Try.underlying30 hi0 hz0 hz1 hz2 rfl (by omega) (.slice (some ⟨g, off + 1, none⟩) hn' c') hn' (H'.map nV) rfl (by exact HO5.out.alloc _) _ 1 1 [_] rfl rfl (by exact news_push rfl rfl) (by simp [Value.oneCell']) (by omega) (by simp only [maxLen]; omega) (by omega) _ rfl ?_; intro g6 o6 c6 w6 hown6 hgrow6 hat6; have hgl6 : g6 < w6.heap.size := hown6.lt rfl; have HI6 := Lib.hid (HI5.out.push (n := hn' + 1) (off := o6) (c := c6) _ hgrow6 hat6 hgl6); have HB6 := Lib.hid (Below.grown (HB5.out.alloc HB5.out.size _) hgrow6 (by have := HB5.out.size; simp; omega) (fun q hq => HNW.out q hq)); have HN6 := Lib.hid (push_new (off := o6) (n := hn' + 1) (c := c6) HNW.out HB5.out.size hat6); have HO6 := Lib.hid (push_own hHl hown6); clear hown6 hgrow6 hat6))
              go_roundw
              case rel => exact ⟨j + 1, _, H' ++ [x], by omega, by go_num, HINV.out, HB7.out, by rw [List.length_append, hHl]; exact HO7.out, HN6.out, HI7.out⟩
              case measure => simp [intOf]; omega
        · have k5 : ((hn : Int) == (K : Int)) = false := by rw [beq_eq_false_iff_ne]; omega
          have HO := HO0; have HIN := HI0; have HBW := HB0; have HNW := HN0
          go_wp2_with fail
          obtain ⟨x, t, hl⟩ : ∃ x t, s.ln = x :: t := by
            cases hs : s.ln with
            | nil => have := hinv.len; rw [hs] at this; simp at this; omega
            | cons x t => exact ⟨x, t, rfl⟩
          obtain ⟨hX, hE, hO1, hFE, hO2, hinv2⟩ := hinv.take hl b (by omega)
          have hT := take_in HIN.out (fun q hq => by rw [hinv.n]; exact hinv.lt q (by simp [hq]))
          rw [hX, hE] at hT
          unfold pp at hT
          obtain ⟨F, hF⟩ : ∃ F, (fillS (takeS s) (x : Int) b).ln.length = F := ⟨_, rfl⟩
          have hF2 : hn + 1 + F = K := by have := hinv2.len; simp at this; omega
          have k6 : ((hn : Int) + 1 + (F : Int) != (K : Int)) = false := by simp; omega
          have k7 : F ≤ 8 := by omega
          have k8 : hn ≤ 8 := by omega
          have HT := Lib.hid hT; have HX1 := Lib.hid hO1; have HX2 := Lib.hid hFE; have HX3 := Lib.hid hO2; have HINV := Lib.hid hinv2; have HLL := Lib.hid hF; have HL6 : Hid ((fillS (takeS s) (x : Int) b).ln.length ≤ 64) := by show _ ≤ _; omega
          clear hT hO1 hFE hO2 hinv2 hX hE hl hinv hF hF2
          refine HT.out.mono ?_
          rintro e4 w4 ⟨rfl, hd4⟩
          have HO4 := Lib.hid (HO.out.only hd4.2 (fun kk hk h => h.2 hk)); have HB4 := Lib.hid (HBW.out.trans (hd4.below HIN.out.1)); have HI4 := Lib.hid hd4.1
          clear hd4 HT
          go_wp2
          refine region_objs (by kernel_rfl) (fun _ _ => True)
            [.val (.int .i64 0),
             .val (.bool false),
             .val (.bool false),
             .val (.pointer (some ⟨p, 0, none⟩)),
             .val (.int .i64 (x : Int)),
             .val (.string ⟨#[]⟩),
             .val (.bool false),
             .val (.bool false),
             .val (.bool false),
             .val (.pointer (some ⟨p, 0, none⟩)),
             .val (.int .i64 (x : Int)),
             .val (.slice Aj nb cj),
             .val (.int .i64 0),
             .val (.bool false),
             .val (.bool false),
             .val (.bool false),
             .val (.pointer (some ⟨p, 0, none⟩)),
             .val (.int .i64 (x : Int)),
             .val (.string ⟨b.toArray⟩),
             .val (.slice Aj nb cj),
             .val (.string ⟨b.toArray⟩),
             .val (.bool false),
             .val (.bool false)]
            (⟨12, fun W => In w.heap.size (fun q => (Value.slice A1 hn c1).ownBlock = some q) W p (takeS s) ∧ Own W 3 1 (.slice A1 hn c1) hn (H.map nV) ∧ Below w.heap.size w W, fun W => In w.heap.size (fun q => (Value.slice A1 hn c1).ownBlock = some q) W p (fillS (takeS s) (x : Int) b) ∧ Own W 3 1 (.slice A1 hn c1) hn (H.map nV) ∧ Below w.heap.size w W⟩) (⟨12, fun _ => True, fun _ => True⟩) (fun _ => trivial) (fun _ _ _ _ _ => trivial) (by kernel_rfl) (⟨HI4.out.drewN 1, HO4.out.drewN 1, below_drewN HB4.out 1⟩) (trivial) ⟨Nat.le_of_ble_eq_true rfl, Nat.le_of_ble_eq_true rfl⟩ ?_ ?_
          · refine ⟨?_, ?_, ?_, ?_, ?_, ?_, ?_, ?_, ?_, ?_, ?_, ?_, ?_, ?_, ?_, ?_, ?_, ?_, ?_, ?_, ?_, ?_, ?_, trivial⟩
            · intro ra RW hR hsA hsB hk hd K hK
              have SA := Lib.hid hsA
              have SB := Lib.hid hsB
              clear hsA hsB
              obtain ⟨e12, g12⟩ := hk 12 (.int .i64 0) (by kernel_rfl) rfl
              clear hk hd
              have HR := Lib.hid hR
              clear hR
              go_simp
              exact hK _ _ (trivial) rfl (SA.out.same (Nat.ne_of_beq_eq_false rfl)) (SB.out.same (Nat.ne_of_beq_eq_false rfl))
            · intro ra RW hR hsA hsB hk hd K hK
              have SA := Lib.hid hsA
              have SB := Lib.hid hsB
              clear hsA hsB
              obtain ⟨v65, e65, g65, f65⟩ := hd 0 65 (by kernel_rfl) rfl
              have f65 : v65 = .int .i64 0 := f65
              subst f65
              clear hk hd
              have HR := Lib.hid hR
              clear hR
              go_simp
              exact hK _ _ (trivial) rfl (SA.out.same (Nat.ne_of_beq_eq_false rfl)) (SB.out.same (Nat.ne_of_beq_eq_false rfl))
            · intro ra RW hR hsA hsB hk hd K hK
              have SA := Lib.hid hsA
              have SB := Lib.hid hsB
              clear hsA hsB
              obtain ⟨v66, e66, g66, f66⟩ := hd 1 66 (by kernel_rfl) rfl
              have f66 : v66 = .bool false := f66
              subst f66
              clear hk hd
              have HR := Lib.hid hR
              clear hR
              go_simp
              exact hK _ _ (trivial) rfl (SA.out.same (Nat.ne_of_beq_eq_false rfl)) (SB.out.same (Nat.ne_of_beq_eq_false rfl))
            · intro ra RW hR hsA hsB hk hd K hK
              have SA := Lib.hid hsA
              have SB := Lib.hid hsB
              clear hsA hsB
              obtain ⟨e6, g6⟩ := hk 6 (.pointer (some ⟨p, 0, none⟩)) (by kernel_rfl) rfl
              obtain ⟨v67, e67, g67, f67⟩ := hd 2 67 (by kernel_rfl) rfl
              have f67 : v67 = .bool false := f67
              subst f67
              clear hk hd
              have HR := Lib.hid hR
              clear hR
              go_simp
              exact hK _ _ (trivial) rfl (SA.out.same (Nat.ne_of_beq_eq_false rfl)) (SB.out.same (Nat.ne_of_beq_eq_false rfl))
            · intro ra RW hR hsA hsB hk hd K hK
              have SA := Lib.hid hsA
              have SB := Lib.hid hsB
              clear hsA hsB
              obtain ⟨e11, g11⟩ := hk 11 (.int .i64 (x : Int)) (by kernel_rfl) rfl
              obtain ⟨v67, e67, g67, f67⟩ := hd 2 67 (by kernel_rfl) rfl
              have f67 : v67 = .bool false := f67
              subst f67
              clear hk hd
              have HR := Lib.hid hR
              clear hR
              go_simp
              exact hK _ _ (trivial) rfl (SA.out.same (Nat.ne_of_beq_eq_false rfl)) (SB.out.same (Nat.ne_of_beq_eq_false rfl))
            · intro ra RW hR hsA hsB hk hd K hK
              have SA := Lib.hid hsA
              have SB := Lib.hid hsB
              clear hsA hsB
              obtain ⟨v68, e68, g68, f68⟩ := hd 3 68 (by kernel_rfl) rfl
              have f68 : v68 = .pointer (some ⟨p, 0, none⟩) := f68
              subst f68
              obtain ⟨v69, e69, g69, f69⟩ := hd 4 69 (by kernel_rfl) rfl
              have f69 : v69 = .int .i64 (x : Int) := f69
              subst f69
              obtain ⟨v67, e67, g67, f67⟩ := hd 2 67 (by kernel_rfl) rfl
              have f67 : v67 = .bool false := f67
              subst f67
              clear hk hd
              have HR := Lib.hid hR
              clear hR
              go_simp
              refine (octets_in (x : Int) (SA.out.early (by kernel_rfl)).1).mono ?_
              rintro e w2 ⟨rfl, rfl⟩
              rw [HX1.out]
              exact hK _ _ trivial rfl (SA.out.same (Nat.ne_of_beq_eq_false rfl)) (SB.out.same (Nat.ne_of_beq_eq_false rfl))
            · intro ra RW hR hsA hsB hk hd K hK
              have SA := Lib.hid hsA
              have SB := Lib.hid hsB
              clear hsA hsB
              obtain ⟨v70, e70, g70, f70⟩ := hd 5 70 (by kernel_rfl) rfl
              have f70 : v70 = .string ⟨#[]⟩ := f70
              subst f70
              obtain ⟨v67, e67, g67, f67⟩ := hd 2 67 (by kernel_rfl) rfl
              have f67 : v67 = .bool false := f67
              subst f67
              clear hk hd
              have HR := Lib.hid hR
              clear hR
              go_simp
              exact hK _ _ (trivial) rfl (SA.out.same (Nat.ne_of_beq_eq_false rfl)) (SB.out.same (Nat.ne_of_beq_eq_false rfl))
            · intro ra RW hR hsA hsB hk hd K hK
              have SA := Lib.hid hsA
              have SB := Lib.hid hsB
              clear hsA hsB
              obtain ⟨v67, e67, g67, f67⟩ := hd 2 67 (by kernel_rfl) rfl
              have f67 : v67 = .bool false := f67
              subst f67
              obtain ⟨v71, e71, g71, f71⟩ := hd 6 71 (by kernel_rfl) rfl
              have f71 : v71 = .bool false := f71
              subst f71
              clear hk hd
              have HR := Lib.hid hR
              clear hR
              go_simp
              exact hK _ _ (trivial) rfl (SA.out.same (Nat.ne_of_beq_eq_false rfl)) (SB.out.same (Nat.ne_of_beq_eq_false rfl))
            · intro ra RW hR hsA hsB hk hd K hK
              have SA := Lib.hid hsA
              have SB := Lib.hid hsB
              clear hsA hsB
              obtain ⟨v72, e72, g72, f72⟩ := hd 7 72 (by kernel_rfl) rfl
              have f72 : v72 = .bool false := f72
              subst f72
              clear hk hd
              have HR := Lib.hid hR
              clear hR
              go_simp
              exact hK _ _ (trivial) rfl (SA.out.same (Nat.ne_of_beq_eq_false rfl)) (SB.out.same (Nat.ne_of_beq_eq_false rfl))
            · intro ra RW hR hsA hsB hk hd K hK
              have SA := Lib.hid hsA
              have SB := Lib.hid hsB
              clear hsA hsB
              obtain ⟨e6, g6⟩ := hk 6 (.pointer (some ⟨p, 0, none⟩)) (by kernel_rfl) rfl
              obtain ⟨v73, e73, g73, f73⟩ := hd 8 73 (by kernel_rfl) rfl
              have f73 : v73 = .bool false := f73
              subst f73
              clear hk hd
              have HR := Lib.hid hR
              clear hR
              go_simp
              exact hK _ _ (trivial) rfl (SA.out.same (Nat.ne_of_beq_eq_false rfl)) (SB.out.same (Nat.ne_of_beq_eq_false rfl))
            · intro ra RW hR hsA hsB hk hd K hK
              have SA := Lib.hid hsA
              have SB := Lib.hid hsB
              clear hsA hsB
              obtain ⟨e11, g11⟩ := hk 11 (.int .i64 (x : Int)) (by kernel_rfl) rfl
              obtain ⟨v73, e73, g73, f73⟩ := hd 8 73 (by kernel_rfl) rfl
              have f73 : v73 = .bool false := f73
              subst f73
              clear hk hd
              have HR := Lib.hid hR
              clear hR
              go_simp
              exact hK _ _ (trivial) rfl (SA.out.same (Nat.ne_of_beq_eq_false rfl)) (SB.out.same (Nat.ne_of_beq_eq_false rfl))
            · intro ra RW hR hsA hsB hk hd K hK
              have SA := Lib.hid hsA
              have SB := Lib.hid hsB
              clear hsA hsB
              obtain ⟨e10, g10⟩ := hk 10 (.slice Aj nb cj) (by kernel_rfl) rfl
              obtain ⟨v73, e73, g73, f73⟩ := hd 8 73 (by kernel_rfl) rfl
              have f73 : v73 = .bool false := f73
              subst f73
              clear hk hd
              have HR := Lib.hid hR
              clear hR
              go_simp
              exact hK _ _ (trivial) rfl (SA.out.same (Nat.ne_of_beq_eq_false rfl)) (SB.out.same (Nat.ne_of_beq_eq_false rfl))
            · intro ra RW hR hsA hsB hk hd K hK
              have SA := Lib.hid hsA
              have SB := Lib.hid hsB
              clear hsA hsB
              obtain ⟨v74, e74, g74, f74⟩ := hd 9 74 (by kernel_rfl) rfl
              have f74 : v74 = .pointer (some ⟨p, 0, none⟩) := f74
              subst f74
              obtain ⟨v75, e75, g75, f75⟩ := hd 10 75 (by kernel_rfl) rfl
              have f75 : v75 = .int .i64 (x : Int) := f75
              subst f75
              obtain ⟨v76, e76, g76, f76⟩ := hd 11 76 (by kernel_rfl) rfl
              have f76 : v76 = .slice Aj nb cj := f76
              subst f76
              obtain ⟨v73, e73, g73, f73⟩ := hd 8 73 (by kernel_rfl) rfl
              have f73 : v73 = .bool false := f73
              subst f73
              clear hk hd
              have HR := Lib.hid hR
              clear hR
              go_simp
              refine (fill_in (x : Int) Aj nb cj _ b (SA.out.self rfl).1 (HRb.out.below (SA.out.self rfl).2.2) (SA.out.self rfl).2.2.size).mono ?_
              rintro e w2 ⟨rfl, hd⟩
              rw [HX2.out]
              exact hK _ _ trivial rfl (SideOut.self rfl ⟨hd.1, (SA.out.self rfl).2.1.only hd.2 (fun kk hk h => h.2 hk), (SA.out.self rfl).2.2.trans (hd.below (SA.out.self rfl).1.1)⟩) (SideOut.self rfl trivial)
            · intro ra RW hR hsA hsB hk hd K hK
              have SA := Lib.hid hsA
              have SB := Lib.hid hsB
              clear hsA hsB
              obtain ⟨v77, e77, g77, f77⟩ := hd 12 77 (by kernel_rfl) rfl
              have f77 : v77 = .int .i64 0 := f77
              subst f77
              obtain ⟨v73, e73, g73, f73⟩ := hd 8 73 (by kernel_rfl) rfl
              have f73 : v73 = .bool false := f73
              subst f73
              clear hk hd
              have HR := Lib.hid hR
              clear hR
              go_simp
              exact hK _ _ (trivial) rfl (SA.out.same (Nat.ne_of_beq_eq_false rfl)) (SB.out.same (Nat.ne_of_beq_eq_false rfl))
            · intro ra RW hR hsA hsB hk hd K hK
              have SA := Lib.hid hsA
              have SB := Lib.hid hsB
              clear hsA hsB
              obtain ⟨v73, e73, g73, f73⟩ := hd 8 73 (by kernel_rfl) rfl
              have f73 : v73 = .bool false := f73
              subst f73
              obtain ⟨v78, e78, g78, f78⟩ := hd 13 78 (by kernel_rfl) rfl
              have f78 : v78 = .bool false := f78
              subst f78
              clear hk hd
              have HR := Lib.hid hR
              clear hR
              go_simp
              exact hK _ _ (trivial) rfl (SA.out.same (Nat.ne_of_beq_eq_false rfl)) (SB.out.same (Nat.ne_of_beq_eq_false rfl))
            · intro ra RW hR hsA hsB hk hd K hK
              have SA := Lib.hid hsA
              have SB := Lib.hid hsB
              clear hsA hsB
              obtain ⟨v79, e79, g79, f79⟩ := hd 14 79 (by kernel_rfl) rfl
              have f79 : v79 = .bool false := f79
              subst f79
              clear hk hd
              have HR := Lib.hid hR
              clear hR
              go_simp
              exact hK _ _ (trivial) rfl (SA.out.same (Nat.ne_of_beq_eq_false rfl)) (SB.out.same (Nat.ne_of_beq_eq_false rfl))
            · intro ra RW hR hsA hsB hk hd K hK
              have SA := Lib.hid hsA
              have SB := Lib.hid hsB
              clear hsA hsB
              obtain ⟨e6, g6⟩ := hk 6 (.pointer (some ⟨p, 0, none⟩)) (by kernel_rfl) rfl
              obtain ⟨v80, e80, g80, f80⟩ := hd 15 80 (by kernel_rfl) rfl
              have f80 : v80 = .bool false := f80
              subst f80
              clear hk hd
              have HR := Lib.hid hR
              clear hR
              go_simp
              exact hK _ _ (trivial) rfl (SA.out.same (Nat.ne_of_beq_eq_false rfl)) (SB.out.same (Nat.ne_of_beq_eq_false rfl))
            · intro ra RW hR hsA hsB hk hd K hK
              have SA := Lib.hid hsA
              have SB := Lib.hid hsB
              clear hsA hsB
              obtain ⟨e11, g11⟩ := hk 11 (.int .i64 (x : Int)) (by kernel_rfl) rfl
              obtain ⟨v80, e80, g80, f80⟩ := hd 15 80 (by kernel_rfl) rfl
              have f80 : v80 = .bool false := f80
              subst f80
              clear hk hd
              have HR := Lib.hid hR
              clear hR
              go_simp
              exact hK _ _ (trivial) rfl (SA.out.same (Nat.ne_of_beq_eq_false rfl)) (SB.out.same (Nat.ne_of_beq_eq_false rfl))
            · intro ra RW hR hsA hsB hk hd K hK
              have SA := Lib.hid hsA
              have SB := Lib.hid hsB
              clear hsA hsB
              obtain ⟨v81, e81, g81, f81⟩ := hd 16 81 (by kernel_rfl) rfl
              have f81 : v81 = .pointer (some ⟨p, 0, none⟩) := f81
              subst f81
              obtain ⟨v82, e82, g82, f82⟩ := hd 17 82 (by kernel_rfl) rfl
              have f82 : v82 = .int .i64 (x : Int) := f82
              subst f82
              obtain ⟨v80, e80, g80, f80⟩ := hd 15 80 (by kernel_rfl) rfl
              have f80 : v80 = .bool false := f80
              subst f80
              clear hk hd
              have HR := Lib.hid hR
              clear hR
              go_simp
              refine (octets_in (x : Int) (SA.out.late (Nat.ne_of_beq_eq_false rfl) (by kernel_rfl) (by kernel_rfl)).1).mono ?_
              rintro e w2 ⟨rfl, rfl⟩
              rw [HX3.out]
              exact hK _ _ trivial rfl (SA.out.same (Nat.ne_of_beq_eq_false rfl)) (SB.out.same (Nat.ne_of_beq_eq_false rfl))
            · intro ra RW hR hsA hsB hk hd K hK
              have SA := Lib.hid hsA
              have SB := Lib.hid hsB
              clear hsA hsB
              obtain ⟨e10, g10⟩ := hk 10 (.slice Aj nb cj) (by kernel_rfl) rfl
              obtain ⟨v80, e80, g80, f80⟩ := hd 15 80 (by kernel_rfl) rfl
              have f80 : v80 = .bool false := f80
              subst f80
              clear hk hd
              have HR := Lib.hid hR
              clear hR
              go_simp
              exact hK _ _ (trivial) rfl (SA.out.same (Nat.ne_of_beq_eq_false rfl)) (SB.out.same (Nat.ne_of_beq_eq_false rfl))
            · intro ra RW hR hsA hsB hk hd K hK
              have SA := Lib.hid hsA
              have SB := Lib.hid hsB
              clear hsA hsB
              obtain ⟨v84, e84, g84, f84⟩ := hd 19 84 (by kernel_rfl) rfl
              have f84 : v84 = .slice Aj nb cj := f84
              subst f84
              obtain ⟨v80, e80, g80, f80⟩ := hd 15 80 (by kernel_rfl) rfl
              have f80 : v80 = .bool false := f80
              subst f80
              clear hk hd
              have HR := Lib.hid hR
              clear hR
              go_simp
              rw [conv_rd (HRb.out.below (SA.out.late (Nat.ne_of_beq_eq_false rfl) (by kernel_rfl) (by kernel_rfl)).2.2)]
              go_simp
              exact hK _ _ trivial rfl (SA.out.same (Nat.ne_of_beq_eq_false rfl)) (SB.out.same (Nat.ne_of_beq_eq_false rfl))
            · intro ra RW hR hsA hsB hk hd K hK
              have SA := Lib.hid hsA
              have SB := Lib.hid hsB
              clear hsA hsB
              obtain ⟨v83, e83, g83, f83⟩ := hd 18 83 (by kernel_rfl) rfl
              have f83 : v83 = .string ⟨b.toArray⟩ := f83
              subst f83
              obtain ⟨v85, e85, g85, f85⟩ := hd 20 85 (by kernel_rfl) rfl
              have f85 : v85 = .string ⟨b.toArray⟩ := f85
              subst f85
              obtain ⟨v80, e80, g80, f80⟩ := hd 15 80 (by kernel_rfl) rfl
              have f80 : v80 = .bool false := f80
              subst f80
              clear hk hd
              have HR := Lib.hid hR
              clear hR
              go_simp
              exact hK _ _ (trivial) rfl (SA.out.same (Nat.ne_of_beq_eq_false rfl)) (SB.out.same (Nat.ne_of_beq_eq_false rfl))
            · intro ra RW hR hsA hsB hk hd K hK
              have SA := Lib.hid hsA
              have SB := Lib.hid hsB
              clear hsA hsB
              obtain ⟨v80, e80, g80, f80⟩ := hd 15 80 (by kernel_rfl) rfl
              have f80 : v80 = .bool false := f80
              subst f80
              obtain ⟨v86, e86, g86, f86⟩ := hd 21 86 (by kernel_rfl) rfl
              have f86 : v86 = .bool false := f86
              subst f86
              clear hk hd
              have HR := Lib.hid hR
              clear hR
              go_simp
              exact hK _ _ (trivial) rfl (SA.out.same (Nat.ne_of_beq_eq_false rfl)) (SB.out.same (Nat.ne_of_beq_eq_false rfl))
          intro vs RW hR hpA hpB hF
          have q0 : vs 0 = .int .i64 0 := hF 0 (by decide)
          have q1 : vs 1 = .bool false := hF 1 (by decide)
          have q2 : vs 2 = .bool false := hF 2 (by decide)
          have q3 : vs 3 = .pointer (some ⟨p, 0, none⟩) := hF 3 (by decide)
          have q4 : vs 4 = .int .i64 (x : Int) := hF 4 (by decide)
          have q5 : vs 5 = .string ⟨#[]⟩ := hF 5 (by decide)
          have q6 : vs 6 = .bool false := hF 6 (by decide)
          have q7 : vs 7 = .bool false := hF 7 (by decide)
          have q8 : vs 8 = .bool false := hF 8 (by decide)
          have q9 : vs 9 = .pointer (some ⟨p, 0, none⟩) := hF 9 (by decide)
          have q10 : vs 10 = .int .i64 (x : Int) := hF 10 (by decide)
          have q11 : vs 11 = .slice Aj nb cj := hF 11 (by decide)
          have q12 : vs 12 = .int .i64 0 := hF 12 (by decide)
          have q13 : vs 13 = .bool false := hF 13 (by decide)
          have q14 : vs 14 = .bool false := hF 14 (by decide)
          have q15 : vs 15 = .bool false := hF 15 (by decide)
          have q16 : vs 16 = .pointer (some ⟨p, 0, none⟩) := hF 16 (by decide)
          have q17 : vs 17 = .int .i64 (x : Int) := hF 17 (by decide)
          have q18 : vs 18 = .string ⟨b.toArray⟩ := hF 18 (by decide)
          have q19 : vs 19 = .slice Aj nb cj := hF 19 (by decide)
          have q20 : vs 20 = .string ⟨b.toArray⟩ := hF 20 (by decide)
          have q21 : vs 21 = .bool false := hF 21 (by decide)
          have q22 : vs 22 = .bool false := hF 22 (by decide)
          simp only [setAll, List.setIfInBounds_toArray, List.set_cons_zero, List.set_cons_succ, q0, q1, q2, q3, q4, q5, q6, q7, q8, q9, q10, q11, q12, q13, q14, q15, q16, q17, q18, q19, q20, q21, q22]
          clear hF q0 q1 q2 q3 q4 q5 q6 q7 q8 q9 q10 q11 q12 q13 q14 q15 q16 q17 q18 q19 q20 q21 q22
          clear vs
          obtain ⟨hi5, ho5, hb5⟩ := hpA
          have HI5 := Lib.hid hi5; have HO5 := Lib.hid ho5; have HB5 := Lib.hid hb5
          clear hi5 ho5 hb5 hpB hR
          go_wp2_with (first
            | (go_at_call 14; refine (hFr _ _ _ HI6.out HL6.out).mono ?_; rintro e7 w7 ⟨v7, rfl, hnew7⟩; have HB7 := Lib.hid (below_trans HB6.out hnew7.2.1); have HI7 := Lib.hid (HI6.out.below hnew7.2.1); have HO7 := Lib.hid (HO6.out.below hnew7.2.1 fun _ hk => HO6.out.lt hk); obtain ⟨A7, c7, rfl, -⟩ := newI_own hnew7; rw [List.length_map, HLL.out]; clear hnew7)
            | (at_builtin; refine wpList_append_mine _ rfl (.tmp 88) (.tmp 90) _ rfl 3 i0 _ 1 8 Try.underlying30 hi0 hz0 hz1 hz2 rfl (by omega) (.slice A1 hn c1) hn (H.map nV) rfl (by exact HO5.out.alloc _) _ 1 1 [_] rfl rfl (by exact news_push rfl rfl) (by simp [Value.oneCell']) (by omega) (by simp only [maxLen]; omega) (by omega) _ rfl ?_; intro g6 o6 c6 w6 hown6 hgrow6 hat6; have hgl6 : g6 < w6.heap.size := hown6.lt rfl; have HI6 := Lib.hid (HI5.out.push (n := hn + 1) (off := o6) (c := c6) _ hgrow6 hat6 hgl6); have HB6 := Lib.hid (Below.grown (HB5.out.alloc HB5.out.size _) hgrow6 (by have := HB5.out.size; simp; omega) (fun q hq => HNW.out q hq)); have HN6 := Lib.hid (push_new (off := o6) (n := hn + 1) (c := c6) HNW.out HB5.out.size hat6); have HO6 := Lib.hid (push_own hHl hown6); clear hown6 hgrow6 hat6))
          go_roundw
          case rel => exact ⟨j + 1, _, H ++ [x], by omega, by go_num, HINV.out, HB7.out, by rw [List.length_append, hHl]; exact HO7.out, HN6.out, HI7.out⟩
          case measure => simp [intOf]; omega
    · generalize hHl : H.length = hn at *
      have HBW := Lib.hid hbw
      clear hbw
      go_wp2
      go_loopw [13] (fun i wr => ∃ (q : Nat) (s' : PS), q ≤ hn ∧ i = .int .i64 q ∧ RoundInv K s' (H.drop q) ∧ Below w.heap.size w wr ∧ Own wr 3 1 (.slice A1 hn c1) hn (H.map nV) ∧ In w.heap.size (fun q => (Value.slice A1 hn c1).ownBlock = some q) wr p s') (fun i _ => hn - (intOf i).toNat)
      case atStart => exact ⟨0, s, by omega, rfl, by simpa using hinv, HB0.out, HO0.out, HI0.out⟩
      case round =>
        obtain ⟨q, s', hq, rfl, hinv', hbw', hown', hin'⟩ := hrel
        by_cases hql : q < hn
        · have hqH : q < H.length := by omega
          rw [List.drop_eq_getElem_cons hqH] at hinv'
          obtain ⟨hinv2, hE2, hO2⟩ := hinv'.drop
          have hln2 : s'.ln.length ≤ 64 := by have := hinv'.len; simp at this; omega
          have hD := drop_in ((H[q] : Nat) : Int) hin' (by rw [hO2]; omega) (by omega)
          rw [hE2] at hD
          unfold pp at hD
          obtain ⟨b1, o1, cp1, hA1, -, -, -, hc1, -⟩ := hown'.form (by omega)
          have c2 := hc1 q (by omega)
          rw [List.getElem?_map, List.getElem?_eq_getElem hqH] at c2
          simp only [Option.map_some, nV] at c2
          simp only [Value.slice.injEq, true_and] at hA1
          obtain ⟨rfl, rfl⟩ := hA1
          have i5 : (q : Int) < (hn : Int) := by omega
          generalize dropS s' ((H[q] : Nat) : Int) = s3 at *
          have HO3 := Lib.hid hown'; have HI3 := Lib.hid hin'; have HB3 := Lib.hid hbw'; have HD := Lib.hid hD; have HINV := Lib.hid hinv2
          clear hown' hin' hbw' hD hc1 hE2 hO2 hinv2 hinv' hln2 hinv
          generalize H[q] = x at *
          go_wp2_with (go_at_call 11; refine HD.out.mono ?_; rintro e5 w5 ⟨rfl, hd5⟩; have HO5 := Lib.hid (HO3.out.only hd5.2 (fun kk hk h => h.2 hk)); have HB5 := Lib.hid (HB3.out.trans (hd5.below HI3.out.1)); have HI5 := Lib.hid hd5.1; clear hd5)
          go_roundw
          case rel => exact ⟨q + 1, s3, by omega, by go_num, HINV.out, HB5.out, HO5.out, HI5.out⟩
          case measure => simp [intOf]; omega
        · have hq' : H.drop q = [] := List.drop_eq_nil_of_le (by omega)
          rw [hq'] at hinv'
          obtain ⟨hlK, hb0⟩ := hinv'.ends
          have hFr := free_in hin' (by omega)
          have hBy : Hid (∀ W, In w.heap.size (fun q => (Value.slice A1 hn c1).ownBlock = some q) W p s' → Calls Try.prog 15 #[.pointer (some ⟨p, 0, none⟩)] W fun e w' => e = .returned (.int .i64 0) ∧ Below W.heap.size W w') := by
            intro W hi
            have := bytes_in hi (fun i => by have := hinv'.sz i; omega)
            rw [hb0] at this
            exact this
          have HF := Lib.hid hFr; have HI3 := Lib.hid hin'; have HB3 := Lib.hid hbw'; have HLK := Lib.hid hlK
          clear hFr hin' hbw' hlK hb0 hinv' hinv hown' hq'
          unfold pp at HF
          go_wp2_with (first
            | (go_at_call 15; refine (hBy.out _ HI4.out).mono ?_; rintro e6 w6 ⟨rfl, hb6⟩; have HB6 := Lib.hid (below_trans HB4.out hb6); clear hb6)
            | (go_at_call 14; refine HF.out.mono ?_; rintro e5 w5 ⟨v5, rfl, hnew5⟩; have HB4 := Lib.hid (below_trans HB3.out hnew5.2.1); have HI4 := Lib.hid (HI3.out.below hnew5.2.1); obtain ⟨A5, c5, rfl, -⟩ := newI_own hnew5; rw [List.length_map, HLK.out]; clear hnew5))
          go_ret
          exact ⟨rfl, HB6.out⟩

set_option maxHeartbeats 1000000 in
theorem round_any (a : Int) (vs0 : List Value) (ps : List (List UInt8)) (A : Option Addr) (m c : Nat) (w : World) (ha0 : 0 ≤ a) (ha1 : a ≤ 255) (hr : Rd w w.heap.size 1 A m vs0) (hp : PR w w.heap.size vs0 ps) :
    Calls Try.prog 4 #[.int .u8 a, .slice A m c] w fun e w' => e = .returned (.bool true) ∧ Below w.heap.size w w' := by
  by_cases h : m ≤ 60
  · exact round_small a vs0 ps A m c w ha0 ha1 hr hp h
  · have hA : Hid (∀ w, Calls Try.prog 8 #[] w fun e w' => e = .returned (.bool true) ∧ Below w.heap.size w w') := awake_any
    have h1 : (60 : Int) < (m : Int) := by omega
    clear hr hp h
    go_enter Try.func4, Try.ntmps4
    go_wp2_with fail
    refine (hA.out _).mono ?_
    rintro e1 w1 ⟨rfl, hb1⟩
    go_wp2_with fail
    refine (hA.out _).mono ?_
    rintro e2 w2 ⟨rfl, hb2⟩
    go_wp2
    go_ret
    exact ⟨rfl, below_trans hb1 hb2⟩
end Go.Proofs.Ytmebpalfjcejoaa
