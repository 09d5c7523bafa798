/-
  The walk of reedbedlaw06.PoolActs: it returns true; no condition beyond those that each theorem states.
-/
import Derived.Test.YtmebpalfjcejoaaActs2
import Derived.Deep.CutRange
import Derived.Deep.CutBlock
namespace Go.Proofs.Ytmebpalfjcejoaa
open Go.RowKit Go.Rb

attribute [local irreducible] Go.wpQuiet

set_option maxRecDepth 20000 in
set_option maxHeartbeats 100000000 in
theorem acts_good (n z : Nat) (acts : List ActD) (A : Option Addr) (m c : Nat) (w : World) (hr : ActsAt w w.heap.size A m acts) (hm : m ≤ 40) (hn1 : 1 ≤ n) (hn2 : n ≤ 64) (hz1 : 1 ≤ z) (hz2 : z ≤ 4096) :
    Calls Try.prog 7 #[.agg #[.int .i64 (n : Int), .int .i64 (z : Int)], .slice A m c] w fun e w' => e = .returned (.bool true) ∧ Below w.heap.size w w' := by
  have hA : Hid (∀ w, Calls Try.prog 8 #[] w fun e w' => e = .returned (.bool true) ∧ Below w.heap.size w w') := awake_any
  have hN : Hid (∀ W, Calls Try.prog 9 #[.int .i64 (n : Int), .int .i64 (z : Int)] W fun e w' => ∃ p S, e = .returned (.tuple #[.pointer (some ⟨p, 0, none⟩), .int .i64 0]) ∧ Below W.heap.size W w' ∧ Rep w' S p (newS n z) ∧ ∀ k, S k → W.heap.size ≤ k) :=
    fun W => new_ok n z W hn1 hn2 hz1 hz2
  have hQ : Hid (∀ W, Calls Try.prog 19 #[.int .i64 (n : Int), .int .i64 (z : Int)] W fun e w' => ∃ p S, e = .returned (.pointer (some ⟨p, 0, none⟩)) ∧ Below W.heap.size W w' ∧ RefR w' S p (newS n z) ∧ ∀ k, S k → W.heap.size ≤ k) :=
    fun W => rnew_any n z W hn2 hz2
  have HR := Lib.hid hr
  clear hr
  have i1 : (m : Int) ≤ 40 := by omega
  have i2 : ¬ (n : Int) < 1 := by omega
  have i3 : ¬ (64 : Int) < (n : Int) := by omega
  have i4 : ¬ (z : Int) < 1 := by omega
  have i5 : ¬ (4096 : Int) < (z : Int) := by omega
  go_enter Try.func7, Try.ntmps7
  go_wp2_with (first
    | (go_at_call 19; go_loud (refine (hQ.out _).mono ?_; rintro e3 w3 ⟨q, T3, rfl, hb3, hq3, hT3⟩; have HB3 := Lib.hid (HB2.out.trans (hb3.mono HB2.out.size)); have HI3 : Hid (TIn w1.heap.size NoT w3 p q (newS n z) (newS n z)) := ⟨HB3.out.size, fun _ h => h.elim, _, _, HR2.out.frame (Only.of_below hb3) (fun k hk h => by have := HR2.out.lt hk; omega), hq3, fun k hk => ⟨HS2.out k hk, fun h => h, fun ht => by have := HR2.out.lt hk; have := hT3 k ht; omega⟩, fun k hk => ⟨Nat.le_trans HB2.out.size (hT3 k hk), fun h => h⟩⟩; clear hb3 hq3 hT3))
    | (go_at_call 9; go_loud (refine (hN.out _).mono ?_; rintro e2 w2 ⟨p, S2, rfl, hb2, hr2, hS2⟩; have HB2 := Lib.hid hb2; have HR2 := Lib.hid hr2; have HS2 := Lib.hid hS2; have d0 := (hb2.cell (p := ⟨w.heap.size, 0, none⟩) HLT.out).trans c0; have d1 := (hb2.cell (p := ⟨w.heap.size, 1, none⟩) HLT.out).trans c1; clear hb2 hr2 hS2))
    | (go_at_call 8; refine (hA.out _).mono ?_; rintro e1 w1 ⟨rfl, hb1⟩; have HLT : w.heap.size < w1.heap.size := (by have := hb1.size; simp at this; omega); have HLT := Lib.hid HLT; have HB0 := Lib.hid (below_trans (below_al (Below.refl _ w) _) hb1); have c0 : w1.cell? ⟨w.heap.size, 0, none⟩ = some (.int .i64 (n : Int)) := (by rw [hb1.cell (p := ⟨w.heap.size, 0, none⟩) (by simp), World.cell?_alloc_mark]; rfl); have c1 : w1.cell? ⟨w.heap.size, 1, none⟩ = some (.int .i64 (z : Int)) := (by rw [hb1.cell (p := ⟨w.heap.size, 1, none⟩) (by simp), World.cell?_alloc_mark]; rfl); clear hb1))
  have HRW := Lib.hid (fun j (hj : j < m) => HR.out.2 j hj)
  have HC0 := Lib.hid c0
  clear hN hQ d0 d1 c0 c1 HB2 HR2 HS2
  go_loopw [8] (fun i wr => ∃ (j : Nat) (s : PS), j ≤ m ∧ i = .int .i64 j ∧ PartsInv n z (j + 1) s ∧ Below w1.heap.size w1 wr ∧ TIn w1.heap.size NoT wr p q s s) (fun i _ => m - (intOf i).toNat)
  case atStart => exact ⟨0, _, by omega, rfl, PartsInv.init n z, HB3.out, HI3.out⟩
  case round =>
    obtain ⟨j, s, hj, rfl, hinv, hbw, hin⟩ := hrel
    by_cases hjm : j < m
    · obtain ⟨g, o, x, Ab, cb, rfl, hx, hat0⟩ := HR.out.2 j hjm
      have hb0 := below_trans HB0.out hbw
      have hat := hat0.below hb0
      have i6 : (j : Int) < (m : Int) := by omega
      have q0 := hat.c0; have q1 := hat.c1; have q2 := hat.c2; have q3 := hat.c3; have q4 := hat.c4
      have HRB := Lib.hid hat0.rd
      have hXx : TIn w1.heap.size (fun k => k = wr.heap.size) (wr.alloc (.cells #[.int .i64 x.k, .int .i64 x.i, .int .i64 x.f, .int .i64 x.t, .slice Ab x.b.length cb] 42)) p q s s :=
        hin.frame (U := fun k => wr.heap.size ≤ k) ((Only.refl _ wr).alloc _) (fun k hk => .inr hk) (fun k hk => ⟨.inr (by omega), by subst hk; simp⟩)
      have HI5 := Lib.hid hXx
      have hac := ActC.new wr x Ab cb
      have HA5 := Lib.hid hac
      have HB5 := Lib.hid (below_al hbw (.cells #[.int .i64 x.k, .int .i64 x.i, .int .i64 x.f, .int .i64 x.t, .slice Ab x.b.length cb] 42))
      have HINV := Lib.hid hinv
      clear hin hat0 hat hx hXx hinv hac hbw hb0 HB3 HI3
      by_cases h500 : 5000 < x.b.length
      · have i7 : (5000 : Int) < (x.b.length : Int) := by omega
        generalize x.b.length = nb at *
        go_wp2
        go_ret
        exact ⟨rfl, below_trans HB0.out HB5.out⟩
      · have i7 : ¬ (5000 : Int) < (x.b.length : Int) := by omega
        go_upto_block 2 with fail
        go_cut [10] from 72 to 257 (fun ok wc => ok = .bool true ∧ ∃ s', PartsInv n z (j + 1 + 1) s' ∧ Below w1.heap.size w1 wc ∧ TIn w1.heap.size (fun k => k = wr.heap.size) wc p q s' s' ∧ ActC wc wr.heap.size x Ab cb)
        case first =>
          by_cases hk0 : x.k = 0
          · have b0 : (x.k == 0) = true := by simp [hk0]
            clear hk0
            as_aux_lemma =>
              have hln : ∀ k ∈ s.ln, k < s.hs.length := fun k hk => by rw [HINV.out.hl]; exact HINV.out.lt k hk
              have hP := HI5.out.pcall (fun S hR => take_any _ hR hln)
              have hQc : Hid (∀ W, TIn w1.heap.size (fun k => k = wr.heap.size) W p q (takeS s) s → _) := fun W h => h.rcall (fun T hR => rtake_any W hR hln)
              have HI2 : Hid (PartsInv n z (j + 1 + 1) (takeS s)) := (HINV.out.take (by omega)).more (by omega)
              have HP := Lib.hid hP
              clear hP hln
              generalize takeS s = s2 at *
              generalize takeX s = X0 at *
              generalize takeE s = E0 at *
              unfold pp at HP hQc
              go_wp2_with (first
                | (go_at_call 20; refine (hQc.out _ HI6.out).mono ?_; rintro e7 w7 ⟨rfl, hi7, ho7⟩; have HI7 := Lib.hid hi7; have HA7 := Lib.hid (HA6.out.only ho7 (fun h => h.2 rfl)); have HB7 := Lib.hid (HB6.out.trans (Y.below ho7 HI6.out.1)); clear hi7 ho7)
                | (go_at_call 10; refine HP.out.mono ?_; rintro e6 w6 ⟨rfl, hi6, ho6⟩; have HI6 := Lib.hid hi6; have HA6 := Lib.hid (HA5.out.only ho6 (fun h => h.2 rfl)); have HB6 := Lib.hid (HB5.out.trans (Y.below ho6 HI5.out.1)); clear hi6 ho6))
              go_meet
              case rel => exact ⟨rfl, s2, HI2.out, HB7.out, HI7.out, HA7.out⟩
          · have b0 : (x.k == 0) = false := by simp [hk0]
            clear hk0
            by_cases hk1 : x.k = 1
            · have b1 : (x.k == 1) = true := by simp [hk1]
              clear hk1
              skip
              obtain ⟨ib, hb0, hb1, hb2, hb3⟩ := info_parts info5
              have hnl : x.b.length ≤ 5000 := by omega
              have HI2 : Hid (PartsInv n z (j + 1 + 1) (fillS s x.i x.b)) := (HINV.out.fill _ _).more (by omega)
              go_upto_region 22 with fail
              generalize (wr.alloc (.cells #[.int .i64 x.k, .int .i64 x.i, .int .i64 x.f, .int .i64 x.t, .slice Ab x.b.length cb] 42)) = w5 at *
              have y4 : ∀ ob, (w5.alloc ob).cell? ⟨wr.heap.size, 4, none⟩ = some (.slice Ab x.b.length cb) := fun ob => ((below_al (Below.refl _ w5) ob).cell (p := ⟨wr.heap.size, 4, none⟩) HA5.out.lt).trans HA5.out.c4
              have HBW5 := Lib.hid (below_trans HB0.out HB5.out)
              generalize hnb : x.b.length = nb at *
              go_wp2_with (at_builtin; go_loud (refine wpList_append_rd _ rfl (.tmp 110) (.tmp 112) _ rfl 5 ib _ 1 1 Try.underlying22 hb0 hb1 hb2 hb3 rfl (by omega) (.slice (some ⟨w5.heap.size, 0, none⟩) 0 0) 0 [] rfl (by exact Own.lit w5 5 1 0 #[] rfl (by decide)) w.heap.size Ab nb cb (x.b.map bV) rfl (by exact HRB.out.below (below_al HBW5.out _)) (by simp [bV, Value.oneCell']) (by simp only [maxLen]; omega) (by omega) _ rfl ?_; intro v6 w6 hown6 hgrow6 hat6; have ho6 : Own w6 5 1 v6 nb (x.b.map bV) := (by simpa using hown6); obtain ⟨A6, c6, rfl, -, -⟩ := ho6.len_))
              have o6 : Only (fun k => w5.heap.size ≤ k) w5 w6 := ((Only.refl _ w5).alloc _).grown hgrow6 (fun k hk _ => by simp [Value.ownBlock] at hk; omega)
              have hnew6 : ∀ k, (Value.slice A6 nb c6).ownBlock = some k → w5.heap.size ≤ k := by
                intro k hk
                rcases hat6 with h | h
                · rw [hk] at h; simp [Value.ownBlock] at h; omega
                · rw [hk] at h; simp at h; omega
              have hi6 : TIn w1.heap.size (fun k => k = wr.heap.size ∨ (Value.slice A6 nb c6).ownBlock = some k) w6 p q s s := HI5.out.frame o6 (fun k hk => .inr hk) (fun k hk => by
                rcases hk with hk | hk
                · exact ⟨.inl hk, by have := HA5.out.lt; have := o6.size; omega⟩
                · exact ⟨.inr (hnew6 k hk), ho6.lt hk⟩)
              have ha6 := HA5.out.only o6 (by have := HA5.out.lt; omega)
              have hb6 := HB5.out.trans (o6.below (B := w1.heap.size) HI5.out.1 (fun k hk => Nat.le_trans HI5.out.1 hk))
              have HI6 := Lib.hid hi6; have HA6 := Lib.hid ha6; have HB6 := Lib.hid hb6; have HO6 := Lib.hid ho6
              have HNEW : Hid (∀ k, (Value.slice A6 nb c6).ownBlock = some k → wr.heap.size ≠ k ∧ w1.heap.size ≤ k) := fun k hk => by have h1 := hnew6 k hk; have h2 := HA5.out.lt; have h3 := HI5.out.1; exact ⟨by omega, by omega⟩
              clear hown6 hgrow6 hat6 o6 hnew6 hi6 ha6 hb6 ho6 HI5 HA5 HB5 y4
              have hPC : ∀ W S, Only (Y w1.heap.size (fun k => k = wr.heap.size ∨ (Value.slice A6 nb c6).ownBlock = some k)) w6.drew W → Rep W S p s → Calls Try.prog 13 #[pp p, .int .i64 x.i, .slice A6 nb c6] W fun e w' => e = .returned (.int .i64 (fillE s x.i x.b)) ∧ Went W S p (fillS s x.i x.b) w' := fun W S hO hR =>
                fill_any x.i A6 nb c6 _ x.b W hR (((show Own w6.drew 5 1 (.slice A6 nb c6) nb (x.b.map bV) from HO6.out).only hO (fun kk hk h => h.2 (.inr hk))).rd) (Nat.le_refl _)
              have hRC : ∀ W T, Only (Y w1.heap.size (fun k => k = wr.heap.size ∨ (Value.slice A6 nb c6).ownBlock = some k)) w6.drew W → RefR W T q s → Calls Try.prog 21 #[pp q, .int .i64 x.i, .slice Ab nb cb] W fun e w' => e = .returned (.int .i64 (fillE s x.i x.b)) ∧ RWent W T q (fillS s x.i x.b) w' := fun W T hO hR => by
                have h1 : Below w1.heap.size w6.drew W := hO.below HI6.out.1 (fun k hk => hk.1)
                have h2 : Below w1.heap.size w6 W := ⟨h1.os, h1.tape, h1.output, h1.size, h1.block⟩
                have h3 := below_trans HB0.out (HB6.out.trans h2)
                exact rfill_any x.i Ab nb cb _ x.b W hR (HRB.out.below h3) h3.size
              generalize fillS s x.i x.b = s2 at *
              generalize fillE s x.i x.b = E0 at *
              unfold pp at hPC hRC
              have HACT : Hid (∀ W, Only (Y w1.heap.size (fun k => k = wr.heap.size ∨ (Value.slice A6 nb c6).ownBlock = some k)) w6.drew W → ActC W wr.heap.size x Ab cb) := fun W hW => ActC.only (w := w6.drew) ⟨HA6.out.lt, HA6.out.c0, HA6.out.c1, HA6.out.c2, HA6.out.c3, HA6.out.c4⟩ hW (fun h => h.2 (.inl rfl))
              obtain ⟨hB0, hX0, S0, T0, hP0', hQ0', hS0, hT0⟩ := HI6.out
              have hP0 : Rep w6.drew S0 p s := hP0'.frame (U := NoT) ((Only.refl _ _).drew) (fun _ _ h => h)
              have hQ0 : RefR w6.drew T0 q s := hQ0'.frame (U := NoT) ((Only.refl _ _).drew) (fun _ _ h => h)
              clear hP0' hQ0' HI6
              go_wp2_with fail
              refine region_objs (by kernel_rfl) (Only (Y w1.heap.size (fun k => k = wr.heap.size ∨ (Value.slice A6 nb c6).ownBlock = some k)))
                [.val (.pointer (some ⟨p, 0, none⟩)),
                 .val (.pointer (some ⟨wr.heap.size, 1, none⟩)),
                 .val (.int .i64 x.i),
                 .val (.slice A6 nb c6),
                 .val (.int .i64 E0),
                 .val (.pointer (some ⟨q, 0, none⟩)),
                 .val (.pointer (some ⟨wr.heap.size, 1, none⟩)),
                 .val (.int .i64 x.i),
                 .val (.pointer (some ⟨wr.heap.size, 4, none⟩)),
                 .val (.slice Ab nb cb),
                 .val (.int .i64 E0),
                 .val (.bool true),
                 .val (.bool true)]
                (⟨4, fun W => Rep W S0 p s, AfterP w1.heap.size (fun k => k = wr.heap.size ∨ (Value.slice A6 nb c6).ownBlock = some k) T0 p s2⟩) (⟨10, fun W => RefR W T0 q s, fun W => TIn w1.heap.size (fun k => k = wr.heap.size ∨ (Value.slice A6 nb c6).ownBlock = some k) W p q s2 s2⟩) (fun W => Only.refl _ W) (fun _ _ _ h k => h.trans k (fun _ _ h => h)) (by kernel_rfl) (hP0) (hQ0) ⟨Nat.le_of_ble_eq_true rfl, Nat.le_of_ble_eq_true rfl⟩ ?_ ?_
              · refine ⟨?_, ?_, ?_, ?_, ?_, ?_, ?_, ?_, ?_, ?_, ?_, ?_, ?_, trivial⟩
                · intro ra RW hR hsA hsB hk hd K hK
                  have SA := Lib.hid hsA
                  have SB := Lib.hid hsB
                  clear hsA hsB
                  have qa := HACT.out RW hR
                  have y1 := qa.c1; have y4 := qa.c4; rw [hnb] at y4
                  clear qa
                  obtain ⟨e5, g5⟩ := hk 5 (.pointer (some ⟨p, 0, none⟩)) (by kernel_rfl) rfl
                  clear hk hd
                  have HR := Lib.hid hR
                  clear hR
                  go_simp
                  exact hK _ _ (Only.refl _ _) rfl (SA.out.same (Nat.ne_of_beq_eq_false rfl)) (SB.out.same (Nat.ne_of_beq_eq_false rfl))
                · intro ra RW hR hsA hsB hk hd K hK
                  have SA := Lib.hid hsA
                  have SB := Lib.hid hsB
                  clear hsA hsB
                  have qa := HACT.out RW hR
                  have y1 := qa.c1; have y4 := qa.c4; rw [hnb] at y4
                  clear qa
                  obtain ⟨e9, g9⟩ := hk 9 (.pointer (some ⟨wr.heap.size, 0, none⟩)) (by kernel_rfl) rfl
                  clear hk hd
                  have HR := Lib.hid hR
                  clear hR
                  go_simp
                  exact hK _ _ (Only.refl _ _) rfl (SA.out.same (Nat.ne_of_beq_eq_false rfl)) (SB.out.same (Nat.ne_of_beq_eq_false rfl))
                · intro ra RW hR hsA hsB hk hd K hK
                  have SA := Lib.hid hsA
                  have SB := Lib.hid hsB
                  clear hsA hsB
                  have qa := HACT.out RW hR
                  have y1 := qa.c1; have y4 := qa.c4; rw [hnb] at y4
                  clear qa
                  obtain ⟨v115, e115, g115, f115⟩ := hd 1 115 (by kernel_rfl) rfl
                  have f115 : v115 = .pointer (some ⟨wr.heap.size, 1, none⟩) := f115
                  subst f115
                  clear hk hd
                  have HR := Lib.hid hR
                  clear hR
                  go_simp
                  exact hK _ _ (Only.refl _ _) rfl (SA.out.same (Nat.ne_of_beq_eq_false rfl)) (SB.out.same (Nat.ne_of_beq_eq_false rfl))
                · intro ra RW hR hsA hsB hk hd K hK
                  have SA := Lib.hid hsA
                  have SB := Lib.hid hsB
                  clear hsA hsB
                  have qa := HACT.out RW hR
                  have y1 := qa.c1; have y4 := qa.c4; rw [hnb] at y4
                  clear qa
                  obtain ⟨e15, g15⟩ := hk 15 (.slice A6 nb c6) (by kernel_rfl) rfl
                  clear hk hd
                  have HR := Lib.hid hR
                  clear hR
                  go_simp
                  exact hK _ _ (Only.refl _ _) rfl (SA.out.same (Nat.ne_of_beq_eq_false rfl)) (SB.out.same (Nat.ne_of_beq_eq_false rfl))
                · intro ra RW hR hsA hsB hk hd K hK
                  have SA := Lib.hid hsA
                  have SB := Lib.hid hsB
                  clear hsA hsB
                  have qa := HACT.out RW hR
                  have y1 := qa.c1; have y4 := qa.c4; rw [hnb] at y4
                  clear qa
                  obtain ⟨v114, e114, g114, f114⟩ := hd 0 114 (by kernel_rfl) rfl
                  have f114 : v114 = .pointer (some ⟨p, 0, none⟩) := f114
                  subst f114
                  obtain ⟨v116, e116, g116, f116⟩ := hd 2 116 (by kernel_rfl) rfl
                  have f116 : v116 = .int .i64 x.i := f116
                  subst f116
                  obtain ⟨v117, e117, g117, f117⟩ := hd 3 117 (by kernel_rfl) rfl
                  have f117 : v117 = .slice A6 nb c6 := f117
                  subst f117
                  clear hk hd
                  have HR := Lib.hid hR
                  clear hR
                  go_simp
                  refine (hPC RW _ HR.out (SA.out.self rfl)).mono ?_
                  rintro e w2 ⟨rfl, hw⟩
                  obtain ⟨o1, o2, o3⟩ := obj_p (B := w1.heap.size) (X := fun k => k = wr.heap.size ∨ (Value.slice A6 nb c6).ownBlock = some k) (Nat.le_trans hB0 HR.out.size) (fun k hk => Nat.lt_of_lt_of_le (hX0 k hk) HR.out.size) (SB.out.early (by kernel_rfl)) hS0 hw
                  exact hK _ _ o3 rfl (SideOut.self rfl o1) (SideOut.early (Nat.ne_of_beq_eq_false rfl) (by kernel_rfl) o2)
                · intro ra RW hR hsA hsB hk hd K hK
                  have SA := Lib.hid hsA
                  have SB := Lib.hid hsB
                  clear hsA hsB
                  have qa := HACT.out RW hR
                  have y1 := qa.c1; have y4 := qa.c4; rw [hnb] at y4
                  clear qa
                  obtain ⟨e7, g7⟩ := hk 7 (.pointer (some ⟨q, 0, none⟩)) (by kernel_rfl) rfl
                  clear hk hd
                  have HR := Lib.hid hR
                  clear hR
                  go_simp
                  exact hK _ _ (Only.refl _ _) rfl (SA.out.same (Nat.ne_of_beq_eq_false rfl)) (SB.out.same (Nat.ne_of_beq_eq_false rfl))
                · intro ra RW hR hsA hsB hk hd K hK
                  have SA := Lib.hid hsA
                  have SB := Lib.hid hsB
                  clear hsA hsB
                  have qa := HACT.out RW hR
                  have y1 := qa.c1; have y4 := qa.c4; rw [hnb] at y4
                  clear qa
                  obtain ⟨e9, g9⟩ := hk 9 (.pointer (some ⟨wr.heap.size, 0, none⟩)) (by kernel_rfl) rfl
                  clear hk hd
                  have HR := Lib.hid hR
                  clear hR
                  go_simp
                  exact hK _ _ (Only.refl _ _) rfl (SA.out.same (Nat.ne_of_beq_eq_false rfl)) (SB.out.same (Nat.ne_of_beq_eq_false rfl))
                · intro ra RW hR hsA hsB hk hd K hK
                  have SA := Lib.hid hsA
                  have SB := Lib.hid hsB
                  clear hsA hsB
                  have qa := HACT.out RW hR
                  have y1 := qa.c1; have y4 := qa.c4; rw [hnb] at y4
                  clear qa
                  obtain ⟨v120, e120, g120, f120⟩ := hd 6 120 (by kernel_rfl) rfl
                  have f120 : v120 = .pointer (some ⟨wr.heap.size, 1, none⟩) := f120
                  subst f120
                  clear hk hd
                  have HR := Lib.hid hR
                  clear hR
                  go_simp
                  exact hK _ _ (Only.refl _ _) rfl (SA.out.same (Nat.ne_of_beq_eq_false rfl)) (SB.out.same (Nat.ne_of_beq_eq_false rfl))
                · intro ra RW hR hsA hsB hk hd K hK
                  have SA := Lib.hid hsA
                  have SB := Lib.hid hsB
                  clear hsA hsB
                  have qa := HACT.out RW hR
                  have y1 := qa.c1; have y4 := qa.c4; rw [hnb] at y4
                  clear qa
                  obtain ⟨e9, g9⟩ := hk 9 (.pointer (some ⟨wr.heap.size, 0, none⟩)) (by kernel_rfl) rfl
                  clear hk hd
                  have HR := Lib.hid hR
                  clear hR
                  go_simp
                  exact hK _ _ (Only.refl _ _) rfl (SA.out.same (Nat.ne_of_beq_eq_false rfl)) (SB.out.same (Nat.ne_of_beq_eq_false rfl))
                · intro ra RW hR hsA hsB hk hd K hK
                  have SA := Lib.hid hsA
                  have SB := Lib.hid hsB
                  clear hsA hsB
                  have qa := HACT.out RW hR
                  have y1 := qa.c1; have y4 := qa.c4; rw [hnb] at y4
                  clear qa
                  obtain ⟨v122, e122, g122, f122⟩ := hd 8 122 (by kernel_rfl) rfl
                  have f122 : v122 = .pointer (some ⟨wr.heap.size, 4, none⟩) := f122
                  subst f122
                  clear hk hd
                  have HR := Lib.hid hR
                  clear hR
                  go_simp
                  exact hK _ _ (Only.refl _ _) rfl (SA.out.same (Nat.ne_of_beq_eq_false rfl)) (SB.out.same (Nat.ne_of_beq_eq_false rfl))
                · intro ra RW hR hsA hsB hk hd K hK
                  have SA := Lib.hid hsA
                  have SB := Lib.hid hsB
                  clear hsA hsB
                  have qa := HACT.out RW hR
                  have y1 := qa.c1; have y4 := qa.c4; rw [hnb] at y4
                  clear qa
                  obtain ⟨v119, e119, g119, f119⟩ := hd 5 119 (by kernel_rfl) rfl
                  have f119 : v119 = .pointer (some ⟨q, 0, none⟩) := f119
                  subst f119
                  obtain ⟨v121, e121, g121, f121⟩ := hd 7 121 (by kernel_rfl) rfl
                  have f121 : v121 = .int .i64 x.i := f121
                  subst f121
                  obtain ⟨v123, e123, g123, f123⟩ := hd 9 123 (by kernel_rfl) rfl
                  have f123 : v123 = .slice Ab nb cb := f123
                  subst f123
                  clear hk hd
                  have HR := Lib.hid hR
                  clear hR
                  go_simp
                  refine (hRC RW _ HR.out (SB.out.self rfl)).mono ?_
                  rintro e w2 ⟨rfl, hw⟩
                  obtain ⟨o1, o2, o3⟩ := obj_r (B := w1.heap.size) (X := fun k => k = wr.heap.size ∨ (Value.slice A6 nb c6).ownBlock = some k) (Nat.le_trans hB0 HR.out.size) (fun k hk => Nat.lt_of_lt_of_le (hX0 k hk) HR.out.size) (SA.out.late (Nat.ne_of_beq_eq_false rfl) (by kernel_rfl) (by kernel_rfl)) hT0 hw
                  exact hK _ _ o3 rfl (SideOut.late (Nat.ne_of_beq_eq_false rfl) (by kernel_rfl) (by kernel_rfl) o2) (SideOut.self rfl o1)
                · intro ra RW hR hsA hsB hk hd K hK
                  have SA := Lib.hid hsA
                  have SB := Lib.hid hsB
                  clear hsA hsB
                  have qa := HACT.out RW hR
                  have y1 := qa.c1; have y4 := qa.c4; rw [hnb] at y4
                  clear qa
                  obtain ⟨v118, e118, g118, f118⟩ := hd 4 118 (by kernel_rfl) rfl
                  have f118 : v118 = .int .i64 E0 := f118
                  subst f118
                  obtain ⟨v124, e124, g124, f124⟩ := hd 10 124 (by kernel_rfl) rfl
                  have f124 : v124 = .int .i64 E0 := f124
                  subst f124
                  clear hk hd
                  have HR := Lib.hid hR
                  clear hR
                  go_simp
                  exact hK _ _ (Only.refl _ _) rfl (SA.out.same (Nat.ne_of_beq_eq_false rfl)) (SB.out.same (Nat.ne_of_beq_eq_false rfl))
                · intro ra RW hR hsA hsB hk hd K hK
                  have SA := Lib.hid hsA
                  have SB := Lib.hid hsB
                  clear hsA hsB
                  have qa := HACT.out RW hR
                  have y1 := qa.c1; have y4 := qa.c4; rw [hnb] at y4
                  clear qa
                  obtain ⟨v125, e125, g125, f125⟩ := hd 11 125 (by kernel_rfl) rfl
                  have f125 : v125 = .bool true := f125
                  subst f125
                  clear hk hd
                  have HR := Lib.hid hR
                  clear hR
                  go_simp
                  exact hK _ _ (Only.refl _ _) rfl (SA.out.same (Nat.ne_of_beq_eq_false rfl)) (SB.out.same (Nat.ne_of_beq_eq_false rfl))
              intro vs RW hR hpA hpB hF
              have q0 : vs 0 = .pointer (some ⟨p, 0, none⟩) := hF 0 (by decide)
              have q1 : vs 1 = .pointer (some ⟨wr.heap.size, 1, none⟩) := hF 1 (by decide)
              have q2 : vs 2 = .int .i64 x.i := hF 2 (by decide)
              have q3 : vs 3 = .slice A6 nb c6 := hF 3 (by decide)
              have q4 : vs 4 = .int .i64 E0 := hF 4 (by decide)
              have q5 : vs 5 = .pointer (some ⟨q, 0, none⟩) := hF 5 (by decide)
              have q6 : vs 6 = .pointer (some ⟨wr.heap.size, 1, none⟩) := hF 6 (by decide)
              have q7 : vs 7 = .int .i64 x.i := hF 7 (by decide)
              have q8 : vs 8 = .pointer (some ⟨wr.heap.size, 4, none⟩) := hF 8 (by decide)
              have q9 : vs 9 = .slice Ab nb cb := hF 9 (by decide)
              have q10 : vs 10 = .int .i64 E0 := hF 10 (by decide)
              have q11 : vs 11 = .bool true := hF 11 (by decide)
              have q12 : vs 12 = .bool true := hF 12 (by decide)
              simp only [setAll, List.setIfInBounds_toArray, List.set_cons_zero, List.set_cons_succ, q0, q1, q2, q3, q4, q5, q6, q7, q8, q9, q10, q11, q12]
              clear hF q0 q1 q2 q3 q4 q5 q6 q7 q8 q9 q10 q11 q12
              clear vs
              have HI7 := Lib.hid hpB
              have HA7 := Lib.hid (HACT.out RW hR)
              have hb7 : Below w1.heap.size w6.drew RW := Only.below hR hB0 (fun k hk => hk.1)
              have hb8 : Below w1.heap.size w6 RW := ⟨hb7.os, hb7.tape, hb7.output, hb7.size, hb7.block⟩
              have HB7 := Lib.hid (HB6.out.trans hb8)
              have ho7 := (show Own w6.drew 5 1 (.slice A6 nb c6) nb (x.b.map bV) from HO6.out).only hR (fun kk hk h => h.2 (.inr hk))
              clear hpA hpB hR hb7 hb8
              by_cases h0 : nb = 0
              · subst h0
                clear ho7
                go_wp2_with fail
                go_meet
                case rel => exact ⟨rfl, s2, HI2.out, HB7.out, HI7.out.frame (U := NoT) (Only.refl _ _) (fun _ h => h.elim) (fun k hk => ⟨.inl (.inl hk), by subst hk; exact HA7.out.lt⟩), HA7.out⟩
              · obtain ⟨g7, of7, cp7, hA7', -, -, hg7, hc7, hf7⟩ := ho7.form (by omega)
                simp only [Value.slice.injEq, true_and] at hA7'
                obtain ⟨rfl, rfl⟩ := hA7'
                have y0 := hc7 0 (by omega)
                rw [List.getElem?_map, List.getElem?_eq_getElem (by omega)] at y0
                simp only [Option.map_some, bV, Nat.add_zero] at y0
                have yf := hf7 of7
                have n0 : 0 < nb := by omega
                have n1 : (0 : Int) < (nb : Int) := by omega
                have hx8 : (x.b[0]'(by omega)).toNat ≤ 255 := by have := (x.b[0]'(by omega)).toNat_lt; omega
                have HNG : Hid (g7 ≠ wr.heap.size) := fun e => (HNEW.out g7 rfl).1 e.symm
                have HNB : Hid (w1.heap.size ≤ g7) := (HNEW.out g7 rfl).2
                have HFr : Hid (∀ v, TIn w1.heap.size (fun k => k = wr.heap.size) (RW.setCell ⟨g7, of7, none⟩ v) p q s2 s2 ∧ ActC (RW.setCell ⟨g7, of7, none⟩ v) wr.heap.size x Ab cb ∧ Below w1.heap.size w1 (RW.setCell ⟨g7, of7, none⟩ v)) := fun v => by
                  have o8 : Only (fun k => k = g7) RW (RW.setCell ⟨g7, of7, none⟩ v) := (Only.refl (fun k => k = g7) RW).setCell (p := ⟨g7, of7, none⟩) (fun _ => rfl) v
                  refine ⟨HI7.out.frame o8 (fun k hk => .inl (.inr (by rw [hk]; rfl))) (fun k hk => ⟨.inl (.inl hk), by subst hk; have := HA7.out.lt; have := o8.size; omega⟩), HA7.out.only o8 (fun e => ?_), HB7.out.setCell (p := ⟨g7, of7, none⟩) ?_ v⟩
                  · exact HNG.out e.symm
                  · exact HNB.out
                clear ho7 hc7 hf7
                generalize (x.b[0]'(by omega)).toNat = y at *
                go_wp2_with fail
                go_meet
                case rel => exact ⟨rfl, s2, HI2.out, (HFr.out _).2.2, (HFr.out _).1, (HFr.out _).2.1⟩
            · have b1 : (x.k == 1) = false := by simp [hk1]
              clear hk1
              by_cases hk2 : x.k = 2
              · have b2 : (x.k == 2) = true := by simp [hk2]
                clear hk2
                have hPV : Hid (∀ W, TIn w1.heap.size (fun k => k = wr.heap.size) W p q s s → Calls Try.prog 18 #[pp p, .int .i64 x.i, .int .i64 x.f, .int .i64 x.t] W fun e w' => e = .returned (.tuple #[.string ⟨(viewO s x.i x.f x.t).toArray⟩, .int .i64 (viewE s x.i x.f x.t)]) ∧ W = w') := fun W h => by
                  obtain ⟨S, hR⟩ := h.rep
                  exact view_any _ _ _ W hR (by have := HINV.out.sz x.i.toNat; simp only [bOf]; omega)
                have hRV : Hid (∀ W, TIn w1.heap.size (fun k => k = wr.heap.size) W p q s s → Calls Try.prog 22 #[pp q, .int .i64 x.i, .int .i64 x.f, .int .i64 x.t] W fun e w' => e = .returned (.tuple #[.string ⟨(viewO s x.i x.f x.t).toArray⟩, .int .i64 (viewE s x.i x.f x.t)]) ∧ W = w') := fun W h => by
                  obtain ⟨T, hR⟩ := h.ref
                  exact rview_any _ _ _ W hR (by have := HINV.out.sz x.i.toNat; simp only [bOf]; omega)
                generalize (⟨(viewO s x.i x.f x.t).toArray⟩ : ByteArray) = V0 at hPV hRV
                generalize viewE s x.i x.f x.t = E0 at hPV hRV
                unfold pp at hPV hRV
                by_cases hlo : x.i < 0
                · have l0 : decide (0 ≤ x.i) = false := by simp; omega
                  as_aux_lemma =>
                    have z1 := HA5.out.c1
                    go_wp2_with fail
                    generalize (wr.alloc (.cells #[.int .i64 x.k, .int .i64 x.i, .int .i64 x.f, .int .i64 x.t, .slice Ab x.b.length cb] 42)) = w5 at *
                    have z0 := (HB5.out.cell (p := ⟨w.heap.size, 0, none⟩) HLT.out).trans HC0.out
                    have z1 := HA5.out.c1
                    go_quiet (fail)
                    have HID := Lib.hid (HI5.out.below (below_drewN (Below.refl _ w5) nq)); have HAD := Lib.hid (HA5.out.below (below_drewN (Below.refl _ w5) nq)); have HBD := Lib.hid (below_drewN HB5.out nq)
                    clear HI5 HA5 HB5 z0 z1
                    have y1 := HAD.out.c1; have y2 := HAD.out.c2; have y3 := HAD.out.c3
                    go_wp2_with (first
                      | (go_at_call 18; refine (hPV.out _ HID.out).mono ?_; rintro e8 w8 ⟨rfl, rfl⟩)
                      | (go_at_call 22; refine (hRV.out _ HID.out).mono ?_; rintro e9 w9 ⟨rfl, rfl⟩))
                    go_meet
                    case rel => exact ⟨rfl, s, HINV.out.more (by omega), HBD.out, HID.out, HAD.out⟩
                · by_cases hhi : (n : Int) ≤ x.i
                  · have l0 : decide (0 ≤ x.i) = true := by simp; omega
                    have l1 : decide (x.i < (n : Int)) = false := by simp; omega
                    as_aux_lemma =>
                      have z1 := HA5.out.c1
                      go_wp2_with fail
                      generalize (wr.alloc (.cells #[.int .i64 x.k, .int .i64 x.i, .int .i64 x.f, .int .i64 x.t, .slice Ab x.b.length cb] 42)) = w5 at *
                      have z0 := (HB5.out.cell (p := ⟨w.heap.size, 0, none⟩) HLT.out).trans HC0.out
                      have z1 := HA5.out.c1
                      go_quiet (fail)
                      have HID := Lib.hid (HI5.out.below (below_drewN (Below.refl _ w5) nq)); have HAD := Lib.hid (HA5.out.below (below_drewN (Below.refl _ w5) nq)); have HBD := Lib.hid (below_drewN HB5.out nq)
                      clear HI5 HA5 HB5 z0 z1
                      have y1 := HAD.out.c1; have y2 := HAD.out.c2; have y3 := HAD.out.c3
                      go_wp2_with (first
                        | (go_at_call 18; refine (hPV.out _ HID.out).mono ?_; rintro e8 w8 ⟨rfl, rfl⟩)
                        | (go_at_call 22; refine (hRV.out _ HID.out).mono ?_; rintro e9 w9 ⟨rfl, rfl⟩))
                      go_meet
                      case rel => exact ⟨rfl, s, HINV.out.more (by omega), HBD.out, HID.out, HAD.out⟩
                  · as_aux_lemma =>
                      go_wp2_with fail
                      generalize (wr.alloc (.cells #[.int .i64 x.k, .int .i64 x.i, .int .i64 x.f, .int .i64 x.t, .slice Ab x.b.length cb] 42)) = w5 at *
                      obtain ⟨k, hk⟩ := Int.eq_ofNat_of_zero_le (show 0 ≤ x.i by omega)
                      have hkn : k < n := by omega
                      have l1 : (k : Int) < (n : Int) := by omega
                      have hoct : octO s (k : Int) = s.bs.getD k [] := by
                        unfold octO
                        by_cases hh : heldB s (k : Int)
                        · rw [if_pos hh]; simp [bOf]
                        · rw [if_neg hh]
                          have h0 : s.hs.getD k 0 = 0 := by
                            rcases Nat.eq_zero_or_pos (s.hs.getD k 0) with h | h
                            · exact h
                            · exact absurd ⟨by omega, by rw [HINV.out.hl]; omega, by rw [Int.toNat_natCast]; exact h⟩ hh
                          exact (HINV.out.emp k hkn h0).symm
                      obtain ⟨T9, hv9, bv9, lv9, hra⟩ := HI5.out.ref
                      obtain ⟨gb, ob, capb, bvf, cbx, -, -, -⟩ := hra.bform (i := k) (by rw [HINV.out.hl]; exact hkn)
                      have hqlt := hra.lt q hra.sp
                      have hglt : gb < w5.heap.size := hra.bo.lt (by rw [bvf]; rfl)
                      have hkb : k < s.bs.length := by rw [HINV.out.bl]; exact hkn
                      have hc1 := hra.c1
                      rw [bvf] at hc1
                      have hOC : Hid (∀ W, Below w5.drew.heap.size w5.drew W → Calls Try.prog 12 #[.pointer (some ⟨p, 0, none⟩), .int .i64 (k : Int)] W fun e w' => e = .returned (.string ⟨(s.bs.getD k []).toArray⟩) ∧ W = w') := fun W hW => by
                        obtain ⟨S, hR⟩ := (HI5.out.below ⟨hW.os, hW.tape, hW.output, hW.size, hW.block⟩).rep
                        have := octets_any (k : Int) W hR
                        rwa [hoct] at this
                      have HFC : Hid (∀ W, Below w5.drew.heap.size w5.drew W → W.cell? ⟨w.heap.size, 0, none⟩ = some (.int .i64 (n : Int)) ∧ W.cell? ⟨wr.heap.size, 1, none⟩ = some (.int .i64 (k : Int)) ∧ W.cell? ⟨q, 1, none⟩ = some (.slice (some ⟨gb, ob, none⟩) s.bs.length capb) ∧ W.cell? ⟨gb, ob + k, none⟩ = some (.string ⟨(s.bs.getD k []).toArray⟩)) := fun W hW0 => by
                        have hW : Below w5.heap.size w5 W := ⟨hW0.os, hW0.tape, hW0.output, hW0.size, hW0.block⟩
                        have h1 := HB5.out.size
                        have h2 := HLT.out
                        have h3 := HA5.out.lt
                        exact ⟨(hW.cell (p := ⟨w.heap.size, 0, none⟩) (show w.heap.size < w5.heap.size by omega)).trans ((HB5.out.cell (p := ⟨w.heap.size, 0, none⟩) HLT.out).trans HC0.out), by rw [← hk]; exact (hW.cell (p := ⟨wr.heap.size, 1, none⟩) h3).trans HA5.out.c1, (hW.cell (p := ⟨q, 1, none⟩) hqlt).trans hc1, (hW.cell (p := ⟨gb, ob + k, none⟩) hglt).trans cbx⟩
                      have HEND : Hid (∀ W, Below w5.drew.heap.size w5.drew W → TIn w1.heap.size (fun k => k = wr.heap.size) W p q s s ∧ ActC W wr.heap.size x Ab cb ∧ Below w1.heap.size w1 W) := fun W hW0 => by
                        have hW : Below w5.heap.size w5 W := ⟨hW0.os, hW0.tape, hW0.output, hW0.size, hW0.block⟩
                        exact ⟨HI5.out.below hW, HA5.out.below hW, HB5.out.trans (hW.mono HB5.out.size)⟩
                      have l2 : (k : Int) < (s.bs.length : Int) := by omega
                      clear hra hoct HI5 HA5 HB5 hc1 cbx hqlt hglt bvf hlo hhi
                      generalize (⟨(s.bs.getD k []).toArray⟩ : ByteArray) = X0 at *
                      generalize s.bs.length = nb at *
                      have HKK := Lib.hid hk
                      clear hk
                      refine region_rows (by kernel_rfl) (fun W W' => Below W.heap.size W W')
                        [.val (.pointer (some ⟨wr.heap.size, 1, none⟩)),
                         .val (.int .i64 (k : Int)),
                         .val (.bool true),
                         .val (.bool true),
                         .val (.pointer (some ⟨wr.heap.size, 1, none⟩)),
                         .val (.int .i64 (k : Int)),
                         .val (.pointer (some ⟨w.heap.size, 0, none⟩)),
                         .val (.int .i64 (n : Int)),
                         .val (.bool true),
                         .val (.bool true),
                         .val (.bool true),
                         .val (.pointer (some ⟨p, 0, none⟩)),
                         .val (.pointer (some ⟨wr.heap.size, 1, none⟩)),
                         .val (.int .i64 (k : Int)),
                         .val (.string X0),
                         .val (.pointer (some ⟨q, 0, none⟩)),
                         .val (.pointer (some ⟨q, 0, none⟩)),
                         .val (.pointer (some ⟨q, 1, none⟩)),
                         .val (.slice (some ⟨gb, ob, none⟩) nb capb),
                         .val (.pointer (some ⟨wr.heap.size, 1, none⟩)),
                         .val (.int .i64 (k : Int)),
                         .val (.pointer (some ⟨gb, ob + k, none⟩)),
                         .val (.string X0),
                         .val (.bool false),
                         .val (.bool false)]
                        (fun W => Below.refl _ W) (fun _ _ _ h k => below_trans h k) (by kernel_rfl) ?_ ?_
                      · refine ⟨?_, ?_, ?_, ?_, ?_, ?_, ?_, ?_, ?_, ?_, ?_, ?_, ?_, ?_, ?_, ?_, ?_, ?_, ?_, ?_, ?_, ?_, ?_, ?_, ?_, trivial⟩
                        · intro ra RW hR hk hd K hK
                          obtain ⟨y0, y1, y2, y3⟩ := HFC.out RW hR
                          obtain ⟨e9, g9⟩ := hk 9 (.pointer (some ⟨wr.heap.size, 0, none⟩)) (by kernel_rfl) rfl
                          clear hk hd
                          have HR := Lib.hid hR
                          clear hR
                          go_simp
                          exact hK _ _ (Below.refl _ _) rfl
                        · intro ra RW hR hk hd K hK
                          obtain ⟨y0, y1, y2, y3⟩ := HFC.out RW hR
                          obtain ⟨v136, e136, g136, f136⟩ := hd 0 136 (by kernel_rfl) rfl
                          have f136 : v136 = .pointer (some ⟨wr.heap.size, 1, none⟩) := f136
                          subst f136
                          clear hk hd
                          have HR := Lib.hid hR
                          clear hR
                          go_simp
                          exact hK _ _ (Below.refl _ _) rfl
                        · intro ra RW hR hk hd K hK
                          obtain ⟨y0, y1, y2, y3⟩ := HFC.out RW hR
                          obtain ⟨v137, e137, g137, f137⟩ := hd 1 137 (by kernel_rfl) rfl
                          have f137 : v137 = .int .i64 (k : Int) := f137
                          subst f137
                          clear hk hd
                          have HR := Lib.hid hR
                          clear hR
                          go_simp
                          exact hK _ _ (Below.refl _ _) rfl
                        · intro ra RW hR hk hd K hK
                          obtain ⟨y0, y1, y2, y3⟩ := HFC.out RW hR
                          obtain ⟨v138, e138, g138, f138⟩ := hd 2 138 (by kernel_rfl) rfl
                          have f138 : v138 = .bool true := f138
                          subst f138
                          clear hk hd
                          have HR := Lib.hid hR
                          clear hR
                          go_simp
                          exact hK _ _ (Below.refl _ _) rfl
                        · intro ra RW hR hk hd K hK
                          obtain ⟨y0, y1, y2, y3⟩ := HFC.out RW hR
                          obtain ⟨e9, g9⟩ := hk 9 (.pointer (some ⟨wr.heap.size, 0, none⟩)) (by kernel_rfl) rfl
                          obtain ⟨v139, e139, g139, f139⟩ := hd 3 139 (by kernel_rfl) rfl
                          have f139 : v139 = .bool true := f139
                          subst f139
                          clear hk hd
                          have HR := Lib.hid hR
                          clear hR
                          go_simp
                          exact hK _ _ (Below.refl _ _) rfl
                        · intro ra RW hR hk hd K hK
                          obtain ⟨y0, y1, y2, y3⟩ := HFC.out RW hR
                          obtain ⟨v140, e140, g140, f140⟩ := hd 4 140 (by kernel_rfl) rfl
                          have f140 : v140 = .pointer (some ⟨wr.heap.size, 1, none⟩) := f140
                          subst f140
                          obtain ⟨v139, e139, g139, f139⟩ := hd 3 139 (by kernel_rfl) rfl
                          have f139 : v139 = .bool true := f139
                          subst f139
                          clear hk hd
                          have HR := Lib.hid hR
                          clear hR
                          go_simp
                          exact hK _ _ (Below.refl _ _) rfl
                        · intro ra RW hR hk hd K hK
                          obtain ⟨y0, y1, y2, y3⟩ := HFC.out RW hR
                          obtain ⟨e2, g2⟩ := hk 2 (.pointer (some ⟨w.heap.size, 0, none⟩)) (by kernel_rfl) rfl
                          obtain ⟨v139, e139, g139, f139⟩ := hd 3 139 (by kernel_rfl) rfl
                          have f139 : v139 = .bool true := f139
                          subst f139
                          clear hk hd
                          have HR := Lib.hid hR
                          clear hR
                          go_simp
                          exact hK _ _ (Below.refl _ _) rfl
                        · intro ra RW hR hk hd K hK
                          obtain ⟨y0, y1, y2, y3⟩ := HFC.out RW hR
                          obtain ⟨v142, e142, g142, f142⟩ := hd 6 142 (by kernel_rfl) rfl
                          have f142 : v142 = .pointer (some ⟨w.heap.size, 0, none⟩) := f142
                          subst f142
                          obtain ⟨v139, e139, g139, f139⟩ := hd 3 139 (by kernel_rfl) rfl
                          have f139 : v139 = .bool true := f139
                          subst f139
                          clear hk hd
                          have HR := Lib.hid hR
                          clear hR
                          go_simp
                          exact hK _ _ (Below.refl _ _) rfl
                        · intro ra RW hR hk hd K hK
                          obtain ⟨y0, y1, y2, y3⟩ := HFC.out RW hR
                          obtain ⟨v141, e141, g141, f141⟩ := hd 5 141 (by kernel_rfl) rfl
                          have f141 : v141 = .int .i64 (k : Int) := f141
                          subst f141
                          obtain ⟨v143, e143, g143, f143⟩ := hd 7 143 (by kernel_rfl) rfl
                          have f143 : v143 = .int .i64 (n : Int) := f143
                          subst f143
                          obtain ⟨v139, e139, g139, f139⟩ := hd 3 139 (by kernel_rfl) rfl
                          have f139 : v139 = .bool true := f139
                          subst f139
                          clear hk hd
                          have HR := Lib.hid hR
                          clear hR
                          go_simp
                          exact hK _ _ (Below.refl _ _) rfl
                        · intro ra RW hR hk hd K hK
                          obtain ⟨y0, y1, y2, y3⟩ := HFC.out RW hR
                          obtain ⟨v139, e139, g139, f139⟩ := hd 3 139 (by kernel_rfl) rfl
                          have f139 : v139 = .bool true := f139
                          subst f139
                          obtain ⟨v144, e144, g144, f144⟩ := hd 8 144 (by kernel_rfl) rfl
                          have f144 : v144 = .bool true := f144
                          subst f144
                          clear hk hd
                          have HR := Lib.hid hR
                          clear hR
                          go_simp
                          exact hK _ _ (Below.refl _ _) rfl
                        · intro ra RW hR hk hd K hK
                          obtain ⟨y0, y1, y2, y3⟩ := HFC.out RW hR
                          obtain ⟨v145, e145, g145, f145⟩ := hd 9 145 (by kernel_rfl) rfl
                          have f145 : v145 = .bool true := f145
                          subst f145
                          clear hk hd
                          have HR := Lib.hid hR
                          clear hR
                          go_simp
                          exact hK _ _ (Below.refl _ _) rfl
                        · intro ra RW hR hk hd K hK
                          obtain ⟨y0, y1, y2, y3⟩ := HFC.out RW hR
                          obtain ⟨e5, g5⟩ := hk 5 (.pointer (some ⟨p, 0, none⟩)) (by kernel_rfl) rfl
                          obtain ⟨v146, e146, g146, f146⟩ := hd 10 146 (by kernel_rfl) rfl
                          have f146 : v146 = .bool true := f146
                          subst f146
                          clear hk hd
                          have HR := Lib.hid hR
                          clear hR
                          go_simp
                          exact hK _ _ (Below.refl _ _) rfl
                        · intro ra RW hR hk hd K hK
                          obtain ⟨y0, y1, y2, y3⟩ := HFC.out RW hR
                          obtain ⟨e9, g9⟩ := hk 9 (.pointer (some ⟨wr.heap.size, 0, none⟩)) (by kernel_rfl) rfl
                          obtain ⟨v146, e146, g146, f146⟩ := hd 10 146 (by kernel_rfl) rfl
                          have f146 : v146 = .bool true := f146
                          subst f146
                          clear hk hd
                          have HR := Lib.hid hR
                          clear hR
                          go_simp
                          exact hK _ _ (Below.refl _ _) rfl
                        · intro ra RW hR hk hd K hK
                          obtain ⟨y0, y1, y2, y3⟩ := HFC.out RW hR
                          obtain ⟨v148, e148, g148, f148⟩ := hd 12 148 (by kernel_rfl) rfl
                          have f148 : v148 = .pointer (some ⟨wr.heap.size, 1, none⟩) := f148
                          subst f148
                          obtain ⟨v146, e146, g146, f146⟩ := hd 10 146 (by kernel_rfl) rfl
                          have f146 : v146 = .bool true := f146
                          subst f146
                          clear hk hd
                          have HR := Lib.hid hR
                          clear hR
                          go_simp
                          exact hK _ _ (Below.refl _ _) rfl
                        · intro ra RW hR hk hd K hK
                          obtain ⟨y0, y1, y2, y3⟩ := HFC.out RW hR
                          obtain ⟨v147, e147, g147, f147⟩ := hd 11 147 (by kernel_rfl) rfl
                          have f147 : v147 = .pointer (some ⟨p, 0, none⟩) := f147
                          subst f147
                          obtain ⟨v149, e149, g149, f149⟩ := hd 13 149 (by kernel_rfl) rfl
                          have f149 : v149 = .int .i64 (k : Int) := f149
                          subst f149
                          obtain ⟨v146, e146, g146, f146⟩ := hd 10 146 (by kernel_rfl) rfl
                          have f146 : v146 = .bool true := f146
                          subst f146
                          clear hk hd
                          have HR := Lib.hid hR
                          clear hR
                          go_simp
                          refine (hOC.out _ HR.out).mono ?_
                          rintro e w2 ⟨rfl, rfl⟩
                          exact hK _ _ (Below.refl _ _) rfl
                        · intro ra RW hR hk hd K hK
                          obtain ⟨y0, y1, y2, y3⟩ := HFC.out RW hR
                          obtain ⟨e7, g7⟩ := hk 7 (.pointer (some ⟨q, 0, none⟩)) (by kernel_rfl) rfl
                          obtain ⟨v146, e146, g146, f146⟩ := hd 10 146 (by kernel_rfl) rfl
                          have f146 : v146 = .bool true := f146
                          subst f146
                          clear hk hd
                          have HR := Lib.hid hR
                          clear hR
                          go_simp
                          exact hK _ _ (Below.refl _ _) rfl
                        · intro ra RW hR hk hd K hK
                          obtain ⟨y0, y1, y2, y3⟩ := HFC.out RW hR
                          obtain ⟨v151, e151, g151, f151⟩ := hd 15 151 (by kernel_rfl) rfl
                          have f151 : v151 = .pointer (some ⟨q, 0, none⟩) := f151
                          subst f151
                          obtain ⟨v146, e146, g146, f146⟩ := hd 10 146 (by kernel_rfl) rfl
                          have f146 : v146 = .bool true := f146
                          subst f146
                          clear hk hd
                          have HR := Lib.hid hR
                          clear hR
                          go_simp
                          exact hK _ _ (Below.refl _ _) rfl
                        · intro ra RW hR hk hd K hK
                          obtain ⟨y0, y1, y2, y3⟩ := HFC.out RW hR
                          obtain ⟨v152, e152, g152, f152⟩ := hd 16 152 (by kernel_rfl) rfl
                          have f152 : v152 = .pointer (some ⟨q, 0, none⟩) := f152
                          subst f152
                          obtain ⟨v146, e146, g146, f146⟩ := hd 10 146 (by kernel_rfl) rfl
                          have f146 : v146 = .bool true := f146
                          subst f146
                          clear hk hd
                          have HR := Lib.hid hR
                          clear hR
                          go_simp
                          exact hK _ _ (Below.refl _ _) rfl
                        · intro ra RW hR hk hd K hK
                          obtain ⟨y0, y1, y2, y3⟩ := HFC.out RW hR
                          obtain ⟨v153, e153, g153, f153⟩ := hd 17 153 (by kernel_rfl) rfl
                          have f153 : v153 = .pointer (some ⟨q, 1, none⟩) := f153
                          subst f153
                          obtain ⟨v146, e146, g146, f146⟩ := hd 10 146 (by kernel_rfl) rfl
                          have f146 : v146 = .bool true := f146
                          subst f146
                          clear hk hd
                          have HR := Lib.hid hR
                          clear hR
                          go_simp
                          exact hK _ _ (Below.refl _ _) rfl
                        · intro ra RW hR hk hd K hK
                          obtain ⟨y0, y1, y2, y3⟩ := HFC.out RW hR
                          obtain ⟨e9, g9⟩ := hk 9 (.pointer (some ⟨wr.heap.size, 0, none⟩)) (by kernel_rfl) rfl
                          obtain ⟨v146, e146, g146, f146⟩ := hd 10 146 (by kernel_rfl) rfl
                          have f146 : v146 = .bool true := f146
                          subst f146
                          clear hk hd
                          have HR := Lib.hid hR
                          clear hR
                          go_simp
                          exact hK _ _ (Below.refl _ _) rfl
                        · intro ra RW hR hk hd K hK
                          obtain ⟨y0, y1, y2, y3⟩ := HFC.out RW hR
                          obtain ⟨v155, e155, g155, f155⟩ := hd 19 155 (by kernel_rfl) rfl
                          have f155 : v155 = .pointer (some ⟨wr.heap.size, 1, none⟩) := f155
                          subst f155
                          obtain ⟨v146, e146, g146, f146⟩ := hd 10 146 (by kernel_rfl) rfl
                          have f146 : v146 = .bool true := f146
                          subst f146
                          clear hk hd
                          have HR := Lib.hid hR
                          clear hR
                          go_simp
                          exact hK _ _ (Below.refl _ _) rfl
                        · intro ra RW hR hk hd K hK
                          obtain ⟨y0, y1, y2, y3⟩ := HFC.out RW hR
                          obtain ⟨v154, e154, g154, f154⟩ := hd 18 154 (by kernel_rfl) rfl
                          have f154 : v154 = .slice (some ⟨gb, ob, none⟩) nb capb := f154
                          subst f154
                          obtain ⟨v156, e156, g156, f156⟩ := hd 20 156 (by kernel_rfl) rfl
                          have f156 : v156 = .int .i64 (k : Int) := f156
                          subst f156
                          obtain ⟨v146, e146, g146, f146⟩ := hd 10 146 (by kernel_rfl) rfl
                          have f146 : v146 = .bool true := f146
                          subst f146
                          clear hk hd
                          have HR := Lib.hid hR
                          clear hR
                          go_simp
                          exact hK _ _ (Below.refl _ _) rfl
                        · intro ra RW hR hk hd K hK
                          obtain ⟨y0, y1, y2, y3⟩ := HFC.out RW hR
                          obtain ⟨v157, e157, g157, f157⟩ := hd 21 157 (by kernel_rfl) rfl
                          have f157 : v157 = .pointer (some ⟨gb, ob + k, none⟩) := f157
                          subst f157
                          obtain ⟨v146, e146, g146, f146⟩ := hd 10 146 (by kernel_rfl) rfl
                          have f146 : v146 = .bool true := f146
                          subst f146
                          clear hk hd
                          have HR := Lib.hid hR
                          clear hR
                          go_simp
                          exact hK _ _ (Below.refl _ _) rfl
                        · intro ra RW hR hk hd K hK
                          obtain ⟨y0, y1, y2, y3⟩ := HFC.out RW hR
                          obtain ⟨v150, e150, g150, f150⟩ := hd 14 150 (by kernel_rfl) rfl
                          have f150 : v150 = .string X0 := f150
                          subst f150
                          obtain ⟨v158, e158, g158, f158⟩ := hd 22 158 (by kernel_rfl) rfl
                          have f158 : v158 = .string X0 := f158
                          subst f158
                          obtain ⟨v146, e146, g146, f146⟩ := hd 10 146 (by kernel_rfl) rfl
                          have f146 : v146 = .bool true := f146
                          subst f146
                          clear hk hd
                          have HR := Lib.hid hR
                          clear hR
                          go_simp
                          exact hK _ _ (Below.refl _ _) rfl
                        · intro ra RW hR hk hd K hK
                          obtain ⟨y0, y1, y2, y3⟩ := HFC.out RW hR
                          obtain ⟨v146, e146, g146, f146⟩ := hd 10 146 (by kernel_rfl) rfl
                          have f146 : v146 = .bool true := f146
                          subst f146
                          obtain ⟨v159, e159, g159, f159⟩ := hd 23 159 (by kernel_rfl) rfl
                          have f159 : v159 = .bool false := f159
                          subst f159
                          clear hk hd
                          have HR := Lib.hid hR
                          clear hR
                          go_simp
                          exact hK _ _ (Below.refl _ _) rfl
                      intro vs RW hR hF
                      have q0 : vs 0 = .pointer (some ⟨wr.heap.size, 1, none⟩) := hF 0 (by decide)
                      have q1 : vs 1 = .int .i64 (k : Int) := hF 1 (by decide)
                      have q2 : vs 2 = .bool true := hF 2 (by decide)
                      have q3 : vs 3 = .bool true := hF 3 (by decide)
                      have q4 : vs 4 = .pointer (some ⟨wr.heap.size, 1, none⟩) := hF 4 (by decide)
                      have q5 : vs 5 = .int .i64 (k : Int) := hF 5 (by decide)
                      have q6 : vs 6 = .pointer (some ⟨w.heap.size, 0, none⟩) := hF 6 (by decide)
                      have q7 : vs 7 = .int .i64 (n : Int) := hF 7 (by decide)
                      have q8 : vs 8 = .bool true := hF 8 (by decide)
                      have q9 : vs 9 = .bool true := hF 9 (by decide)
                      have q10 : vs 10 = .bool true := hF 10 (by decide)
                      have q11 : vs 11 = .pointer (some ⟨p, 0, none⟩) := hF 11 (by decide)
                      have q12 : vs 12 = .pointer (some ⟨wr.heap.size, 1, none⟩) := hF 12 (by decide)
                      have q13 : vs 13 = .int .i64 (k : Int) := hF 13 (by decide)
                      have q14 : vs 14 = .string X0 := hF 14 (by decide)
                      have q15 : vs 15 = .pointer (some ⟨q, 0, none⟩) := hF 15 (by decide)
                      have q16 : vs 16 = .pointer (some ⟨q, 0, none⟩) := hF 16 (by decide)
                      have q17 : vs 17 = .pointer (some ⟨q, 1, none⟩) := hF 17 (by decide)
                      have q18 : vs 18 = .slice (some ⟨gb, ob, none⟩) nb capb := hF 18 (by decide)
                      have q19 : vs 19 = .pointer (some ⟨wr.heap.size, 1, none⟩) := hF 19 (by decide)
                      have q20 : vs 20 = .int .i64 (k : Int) := hF 20 (by decide)
                      have q21 : vs 21 = .pointer (some ⟨gb, ob + k, none⟩) := hF 21 (by decide)
                      have q22 : vs 22 = .string X0 := hF 22 (by decide)
                      have q23 : vs 23 = .bool false := hF 23 (by decide)
                      have q24 : vs 24 = .bool false := hF 24 (by decide)
                      simp only [setAll, List.setIfInBounds_toArray, List.set_cons_zero, List.set_cons_succ, q0, q1, q2, q3, q4, q5, q6, q7, q8, q9, q10, q11, q12, q13, q14, q15, q16, q17, q18, q19, q20, q21, q22, q23, q24]
                      clear hF q0 q1 q2 q3 q4 q5 q6 q7 q8 q9 q10 q11 q12 q13 q14 q15 q16 q17 q18 q19 q20 q21 q22 q23 q24
                      clear vs
                      obtain ⟨hi9, ha9, hb9⟩ := HEND.out RW hR
                      have HID := Lib.hid hi9; have HAD := Lib.hid ha9; have HBD := Lib.hid hb9
                      clear hi9 ha9 hb9 hR
                      have y1 := HAD.out.c1; have y2 := HAD.out.c2; have y3 := HAD.out.c3
                      go_wp2_with (first
                        | (go_at_call 18; refine (hPV.out _ HID.out).mono ?_; rintro e8 w8 ⟨rfl, rfl⟩)
                        | (go_at_call 22; refine (hRV.out _ HID.out).mono ?_; rintro e9 w9 ⟨rfl, rfl⟩))
                      go_meet
                      case rel => exact ⟨rfl, s, HINV.out.more (by omega), HBD.out, HID.out, HAD.out⟩
              · have b2 : (x.k == 2) = false := by simp [hk2]
                clear hk2
                by_cases hk3 : x.k = 3
                · have b3 : (x.k == 3) = true := by simp [hk3]
                  clear hk3
                  skip
                  have hm0 : hOf s x.i < 1000000 := by have := HINV.out.hOf_le x.i; omega
                  have hl0 : s.ln.length < 1000000 := by have := HINV.out.len; omega
                  have hPC : ∀ W S, Rep W S p s → Calls Try.prog 16 #[pp p, .int .i64 x.i] W fun e w' => e = .returned (.int .i64 (turnE s x.i)) ∧ Went W S p (holdS s x.i) w' := fun W S hR => hold_any x.i W hR hm0
                  have hRC : ∀ W T, RefR W T q s → Calls Try.prog 23 #[pp q, .int .i64 x.i, .int .i64 1] W fun e w' => e = .returned (.int .i64 (turnE s x.i)) ∧ RWent W T q (holdS s x.i) w' := fun W T hR => rhold_any x.i W hR hm0
                  have HI2 : Hid (PartsInv n z (j + 1 + 1) (holdS s x.i)) := HINV.out.hold _
                  generalize holdS s x.i = s2 at *
                  generalize turnE s x.i = E0 at *
                  unfold pp at hPC hRC
                  go_wp2_with fail
                  generalize (wr.alloc (.cells #[.int .i64 x.k, .int .i64 x.i, .int .i64 x.f, .int .i64 x.t, .slice Ab x.b.length cb] 42)) = w5 at *
                  have HACT : Hid (∀ W, Only (Y w1.heap.size (fun k => k = wr.heap.size)) w5.drew W → ActC W wr.heap.size x Ab cb) := fun W hW => ActC.only (w := w5.drew) ⟨HA5.out.lt, HA5.out.c0, HA5.out.c1, HA5.out.c2, HA5.out.c3, HA5.out.c4⟩ hW (fun h => h.2 rfl)
                  obtain ⟨hB0, hX0, S0, T0, hP0', hQ0', hS0, hT0⟩ := HI5.out
                  have hP0 : Rep w5.drew S0 p s := hP0'.frame (U := NoT) ((Only.refl _ _).drew) (fun _ _ h => h)
                  have hQ0 : RefR w5.drew T0 q s := hQ0'.frame (U := NoT) ((Only.refl _ _).drew) (fun _ _ h => h)
                  clear hP0' hQ0' HI5
                  refine region_objs (by kernel_rfl) (Only (Y w1.heap.size (fun k => k = wr.heap.size)))
                    [.val (.pointer (some ⟨p, 0, none⟩)),
                     .val (.pointer (some ⟨wr.heap.size, 1, none⟩)),
                     .val (.int .i64 x.i),
                     .val (.int .i64 E0),
                     .val (.pointer (some ⟨q, 0, none⟩)),
                     .val (.pointer (some ⟨wr.heap.size, 1, none⟩)),
                     .val (.int .i64 x.i),
                     .val (.int .i64 E0),
                     .val (.bool true),
                     .val (.bool true)]
                    (⟨3, fun W => Rep W S0 p s, AfterP w1.heap.size (fun k => k = wr.heap.size) T0 p s2⟩) (⟨7, fun W => RefR W T0 q s, fun W => TIn w1.heap.size (fun k => k = wr.heap.size) W p q s2 s2⟩) (fun W => Only.refl _ W) (fun _ _ _ h k => h.trans k (fun _ _ h => h)) (by kernel_rfl) (hP0) (hQ0) ⟨Nat.le_of_ble_eq_true rfl, Nat.le_of_ble_eq_true rfl⟩ ?_ ?_
                  · refine ⟨?_, ?_, ?_, ?_, ?_, ?_, ?_, ?_, ?_, ?_, trivial⟩
                    · intro ra RW hR hsA hsB hk hd K hK
                      have SA := Lib.hid hsA
                      have SB := Lib.hid hsB
                      clear hsA hsB
                      have qa := HACT.out RW hR
                      have y1 := qa.c1; have y4 := qa.c4
                      clear qa
                      obtain ⟨e5, g5⟩ := hk 5 (.pointer (some ⟨p, 0, none⟩)) (by kernel_rfl) rfl
                      clear hk hd
                      have HR := Lib.hid hR
                      clear hR
                      go_simp
                      exact hK _ _ (Only.refl _ _) rfl (SA.out.same (Nat.ne_of_beq_eq_false rfl)) (SB.out.same (Nat.ne_of_beq_eq_false rfl))
                    · intro ra RW hR hsA hsB hk hd K hK
                      have SA := Lib.hid hsA
                      have SB := Lib.hid hsB
                      clear hsA hsB
                      have qa := HACT.out RW hR
                      have y1 := qa.c1; have y4 := qa.c4
                      clear qa
                      obtain ⟨e9, g9⟩ := hk 9 (.pointer (some ⟨wr.heap.size, 0, none⟩)) (by kernel_rfl) rfl
                      clear hk hd
                      have HR := Lib.hid hR
                      clear hR
                      go_simp
                      exact hK _ _ (Only.refl _ _) rfl (SA.out.same (Nat.ne_of_beq_eq_false rfl)) (SB.out.same (Nat.ne_of_beq_eq_false rfl))
                    · intro ra RW hR hsA hsB hk hd K hK
                      have SA := Lib.hid hsA
                      have SB := Lib.hid hsB
                      clear hsA hsB
                      have qa := HACT.out RW hR
                      have y1 := qa.c1; have y4 := qa.c4
                      clear qa
                      obtain ⟨v194, e194, g194, f194⟩ := hd 1 194 (by kernel_rfl) rfl
                      have f194 : v194 = .pointer (some ⟨wr.heap.size, 1, none⟩) := f194
                      subst f194
                      clear hk hd
                      have HR := Lib.hid hR
                      clear hR
                      go_simp
                      exact hK _ _ (Only.refl _ _) rfl (SA.out.same (Nat.ne_of_beq_eq_false rfl)) (SB.out.same (Nat.ne_of_beq_eq_false rfl))
                    · intro ra RW hR hsA hsB hk hd K hK
                      have SA := Lib.hid hsA
                      have SB := Lib.hid hsB
                      clear hsA hsB
                      have qa := HACT.out RW hR
                      have y1 := qa.c1; have y4 := qa.c4
                      clear qa
                      obtain ⟨v193, e193, g193, f193⟩ := hd 0 193 (by kernel_rfl) rfl
                      have f193 : v193 = .pointer (some ⟨p, 0, none⟩) := f193
                      subst f193
                      obtain ⟨v195, e195, g195, f195⟩ := hd 2 195 (by kernel_rfl) rfl
                      have f195 : v195 = .int .i64 x.i := f195
                      subst f195
                      clear hk hd
                      have HR := Lib.hid hR
                      clear hR
                      go_simp
                      refine (hPC RW _ (SA.out.self rfl)).mono ?_
                      rintro e w2 ⟨rfl, hw⟩
                      obtain ⟨o1, o2, o3⟩ := obj_p (B := w1.heap.size) (X := fun k => k = wr.heap.size) (Nat.le_trans hB0 HR.out.size) (fun k hk => Nat.lt_of_lt_of_le (hX0 k hk) HR.out.size) (SB.out.early (by kernel_rfl)) hS0 hw
                      exact hK _ _ o3 rfl (SideOut.self rfl o1) (SideOut.early (Nat.ne_of_beq_eq_false rfl) (by kernel_rfl) o2)
                    · intro ra RW hR hsA hsB hk hd K hK
                      have SA := Lib.hid hsA
                      have SB := Lib.hid hsB
                      clear hsA hsB
                      have qa := HACT.out RW hR
                      have y1 := qa.c1; have y4 := qa.c4
                      clear qa
                      obtain ⟨e7, g7⟩ := hk 7 (.pointer (some ⟨q, 0, none⟩)) (by kernel_rfl) rfl
                      clear hk hd
                      have HR := Lib.hid hR
                      clear hR
                      go_simp
                      exact hK _ _ (Only.refl _ _) rfl (SA.out.same (Nat.ne_of_beq_eq_false rfl)) (SB.out.same (Nat.ne_of_beq_eq_false rfl))
                    · intro ra RW hR hsA hsB hk hd K hK
                      have SA := Lib.hid hsA
                      have SB := Lib.hid hsB
                      clear hsA hsB
                      have qa := HACT.out RW hR
                      have y1 := qa.c1; have y4 := qa.c4
                      clear qa
                      obtain ⟨e9, g9⟩ := hk 9 (.pointer (some ⟨wr.heap.size, 0, none⟩)) (by kernel_rfl) rfl
                      clear hk hd
                      have HR := Lib.hid hR
                      clear hR
                      go_simp
                      exact hK _ _ (Only.refl _ _) rfl (SA.out.same (Nat.ne_of_beq_eq_false rfl)) (SB.out.same (Nat.ne_of_beq_eq_false rfl))
                    · intro ra RW hR hsA hsB hk hd K hK
                      have SA := Lib.hid hsA
                      have SB := Lib.hid hsB
                      clear hsA hsB
                      have qa := HACT.out RW hR
                      have y1 := qa.c1; have y4 := qa.c4
                      clear qa
                      obtain ⟨v198, e198, g198, f198⟩ := hd 5 198 (by kernel_rfl) rfl
                      have f198 : v198 = .pointer (some ⟨wr.heap.size, 1, none⟩) := f198
                      subst f198
                      clear hk hd
                      have HR := Lib.hid hR
                      clear hR
                      go_simp
                      exact hK _ _ (Only.refl _ _) rfl (SA.out.same (Nat.ne_of_beq_eq_false rfl)) (SB.out.same (Nat.ne_of_beq_eq_false rfl))
                    · intro ra RW hR hsA hsB hk hd K hK
                      have SA := Lib.hid hsA
                      have SB := Lib.hid hsB
                      clear hsA hsB
                      have qa := HACT.out RW hR
                      have y1 := qa.c1; have y4 := qa.c4
                      clear qa
                      obtain ⟨v197, e197, g197, f197⟩ := hd 4 197 (by kernel_rfl) rfl
                      have f197 : v197 = .pointer (some ⟨q, 0, none⟩) := f197
                      subst f197
                      obtain ⟨v199, e199, g199, f199⟩ := hd 6 199 (by kernel_rfl) rfl
                      have f199 : v199 = .int .i64 x.i := f199
                      subst f199
                      clear hk hd
                      have HR := Lib.hid hR
                      clear hR
                      go_simp
                      refine (hRC RW _ (SB.out.self rfl)).mono ?_
                      rintro e w2 ⟨rfl, hw⟩
                      obtain ⟨o1, o2, o3⟩ := obj_r (B := w1.heap.size) (X := fun k => k = wr.heap.size) (Nat.le_trans hB0 HR.out.size) (fun k hk => Nat.lt_of_lt_of_le (hX0 k hk) HR.out.size) (SA.out.late (Nat.ne_of_beq_eq_false rfl) (by kernel_rfl) (by kernel_rfl)) hT0 hw
                      exact hK _ _ o3 rfl (SideOut.late (Nat.ne_of_beq_eq_false rfl) (by kernel_rfl) (by kernel_rfl) o2) (SideOut.self rfl o1)
                    · intro ra RW hR hsA hsB hk hd K hK
                      have SA := Lib.hid hsA
                      have SB := Lib.hid hsB
                      clear hsA hsB
                      have qa := HACT.out RW hR
                      have y1 := qa.c1; have y4 := qa.c4
                      clear qa
                      obtain ⟨v196, e196, g196, f196⟩ := hd 3 196 (by kernel_rfl) rfl
                      have f196 : v196 = .int .i64 E0 := f196
                      subst f196
                      obtain ⟨v200, e200, g200, f200⟩ := hd 7 200 (by kernel_rfl) rfl
                      have f200 : v200 = .int .i64 E0 := f200
                      subst f200
                      clear hk hd
                      have HR := Lib.hid hR
                      clear hR
                      go_simp
                      exact hK _ _ (Only.refl _ _) rfl (SA.out.same (Nat.ne_of_beq_eq_false rfl)) (SB.out.same (Nat.ne_of_beq_eq_false rfl))
                    · intro ra RW hR hsA hsB hk hd K hK
                      have SA := Lib.hid hsA
                      have SB := Lib.hid hsB
                      clear hsA hsB
                      have qa := HACT.out RW hR
                      have y1 := qa.c1; have y4 := qa.c4
                      clear qa
                      obtain ⟨v201, e201, g201, f201⟩ := hd 8 201 (by kernel_rfl) rfl
                      have f201 : v201 = .bool true := f201
                      subst f201
                      clear hk hd
                      have HR := Lib.hid hR
                      clear hR
                      go_simp
                      exact hK _ _ (Only.refl _ _) rfl (SA.out.same (Nat.ne_of_beq_eq_false rfl)) (SB.out.same (Nat.ne_of_beq_eq_false rfl))
                  intro vs RW hR hpA hpB hF
                  have q0 : vs 0 = .pointer (some ⟨p, 0, none⟩) := hF 0 (by decide)
                  have q1 : vs 1 = .pointer (some ⟨wr.heap.size, 1, none⟩) := hF 1 (by decide)
                  have q2 : vs 2 = .int .i64 x.i := hF 2 (by decide)
                  have q3 : vs 3 = .int .i64 E0 := hF 3 (by decide)
                  have q4 : vs 4 = .pointer (some ⟨q, 0, none⟩) := hF 4 (by decide)
                  have q5 : vs 5 = .pointer (some ⟨wr.heap.size, 1, none⟩) := hF 5 (by decide)
                  have q6 : vs 6 = .int .i64 x.i := hF 6 (by decide)
                  have q7 : vs 7 = .int .i64 E0 := hF 7 (by decide)
                  have q8 : vs 8 = .bool true := hF 8 (by decide)
                  have q9 : vs 9 = .bool true := hF 9 (by decide)
                  simp only [setAll, List.setIfInBounds_toArray, List.set_cons_zero, List.set_cons_succ, q0, q1, q2, q3, q4, q5, q6, q7, q8, q9]
                  clear hF q0 q1 q2 q3 q4 q5 q6 q7 q8 q9
                  clear vs
                  have HI7 := Lib.hid hpB
                  have HA7 := Lib.hid (HACT.out RW hR)
                  have hb7 : Below w1.heap.size w5.drew RW := Only.below hR hB0 (fun k hk => hk.1)
                  have hb8 : Below w1.heap.size w5 RW := ⟨hb7.os, hb7.tape, hb7.output, hb7.size, hb7.block⟩
                  have HB7 := Lib.hid (HB5.out.trans hb8)
                  clear hb7 hb8
                  clear hpA hpB hR
                  go_wp2_with fail
                  go_meet
                  case rel => exact ⟨rfl, s2, HI2.out, HB7.out, HI7.out, HA7.out⟩
                · have b3 : (x.k == 3) = false := by simp [hk3]
                  clear hk3
                  by_cases hk4 : x.k = 4
                  · have b4 : (x.k == 4) = true := by simp [hk4]
                    clear hk4
                    skip
                    have hm0 : hOf s x.i < 1000000 := by have := HINV.out.hOf_le x.i; omega
                    have hl0 : s.ln.length < 1000000 := by have := HINV.out.len; omega
                    have hPC : ∀ W S, Rep W S p s → Calls Try.prog 11 #[pp p, .int .i64 x.i] W fun e w' => e = .returned (.int .i64 (turnE s x.i)) ∧ Went W S p (dropS s x.i) w' := fun W S hR => drop_any x.i W hR hm0 hl0
                    have hRC : ∀ W T, RefR W T q s → Calls Try.prog 23 #[pp q, .int .i64 x.i, .int .i64 (-1)] W fun e w' => e = .returned (.int .i64 (turnE s x.i)) ∧ RWent W T q (dropS s x.i) w' := fun W T hR => rdrop_any x.i W hR hm0 hl0
                    have HI2 : Hid (PartsInv n z (j + 1 + 1) (dropS s x.i)) := (HINV.out.drop _).more (by omega)
                    generalize dropS s x.i = s2 at *
                    generalize turnE s x.i = E0 at *
                    unfold pp at hPC hRC
                    go_wp2_with fail
                    generalize (wr.alloc (.cells #[.int .i64 x.k, .int .i64 x.i, .int .i64 x.f, .int .i64 x.t, .slice Ab x.b.length cb] 42)) = w5 at *
                    have HACT : Hid (∀ W, Only (Y w1.heap.size (fun k => k = wr.heap.size)) w5.drew W → ActC W wr.heap.size x Ab cb) := fun W hW => ActC.only (w := w5.drew) ⟨HA5.out.lt, HA5.out.c0, HA5.out.c1, HA5.out.c2, HA5.out.c3, HA5.out.c4⟩ hW (fun h => h.2 rfl)
                    obtain ⟨hB0, hX0, S0, T0, hP0', hQ0', hS0, hT0⟩ := HI5.out
                    have hP0 : Rep w5.drew S0 p s := hP0'.frame (U := NoT) ((Only.refl _ _).drew) (fun _ _ h => h)
                    have hQ0 : RefR w5.drew T0 q s := hQ0'.frame (U := NoT) ((Only.refl _ _).drew) (fun _ _ h => h)
                    clear hP0' hQ0' HI5
                    refine region_objs (by kernel_rfl) (Only (Y w1.heap.size (fun k => k = wr.heap.size)))
                      [.val (.pointer (some ⟨p, 0, none⟩)),
                       .val (.pointer (some ⟨wr.heap.size, 1, none⟩)),
                       .val (.int .i64 x.i),
                       .val (.int .i64 E0),
                       .val (.pointer (some ⟨q, 0, none⟩)),
                       .val (.pointer (some ⟨wr.heap.size, 1, none⟩)),
                       .val (.int .i64 x.i),
                       .val (.int .i64 E0),
                       .val (.bool true),
                       .val (.bool true)]
                      (⟨3, fun W => Rep W S0 p s, AfterP w1.heap.size (fun k => k = wr.heap.size) T0 p s2⟩) (⟨7, fun W => RefR W T0 q s, fun W => TIn w1.heap.size (fun k => k = wr.heap.size) W p q s2 s2⟩) (fun W => Only.refl _ W) (fun _ _ _ h k => h.trans k (fun _ _ h => h)) (by kernel_rfl) (hP0) (hQ0) ⟨Nat.le_of_ble_eq_true rfl, Nat.le_of_ble_eq_true rfl⟩ ?_ ?_
                    · refine ⟨?_, ?_, ?_, ?_, ?_, ?_, ?_, ?_, ?_, ?_, trivial⟩
                      · intro ra RW hR hsA hsB hk hd K hK
                        have SA := Lib.hid hsA
                        have SB := Lib.hid hsB
                        clear hsA hsB
                        have qa := HACT.out RW hR
                        have y1 := qa.c1; have y4 := qa.c4
                        clear qa
                        obtain ⟨e5, g5⟩ := hk 5 (.pointer (some ⟨p, 0, none⟩)) (by kernel_rfl) rfl
                        clear hk hd
                        have HR := Lib.hid hR
                        clear hR
                        go_simp
                        exact hK _ _ (Only.refl _ _) rfl (SA.out.same (Nat.ne_of_beq_eq_false rfl)) (SB.out.same (Nat.ne_of_beq_eq_false rfl))
                      · intro ra RW hR hsA hsB hk hd K hK
                        have SA := Lib.hid hsA
                        have SB := Lib.hid hsB
                        clear hsA hsB
                        have qa := HACT.out RW hR
                        have y1 := qa.c1; have y4 := qa.c4
                        clear qa
                        obtain ⟨e9, g9⟩ := hk 9 (.pointer (some ⟨wr.heap.size, 0, none⟩)) (by kernel_rfl) rfl
                        clear hk hd
                        have HR := Lib.hid hR
                        clear hR
                        go_simp
                        exact hK _ _ (Only.refl _ _) rfl (SA.out.same (Nat.ne_of_beq_eq_false rfl)) (SB.out.same (Nat.ne_of_beq_eq_false rfl))
                      · intro ra RW hR hsA hsB hk hd K hK
                        have SA := Lib.hid hsA
                        have SB := Lib.hid hsB
                        clear hsA hsB
                        have qa := HACT.out RW hR
                        have y1 := qa.c1; have y4 := qa.c4
                        clear qa
                        obtain ⟨v205, e205, g205, f205⟩ := hd 1 205 (by kernel_rfl) rfl
                        have f205 : v205 = .pointer (some ⟨wr.heap.size, 1, none⟩) := f205
                        subst f205
                        clear hk hd
                        have HR := Lib.hid hR
                        clear hR
                        go_simp
                        exact hK _ _ (Only.refl _ _) rfl (SA.out.same (Nat.ne_of_beq_eq_false rfl)) (SB.out.same (Nat.ne_of_beq_eq_false rfl))
                      · intro ra RW hR hsA hsB hk hd K hK
                        have SA := Lib.hid hsA
                        have SB := Lib.hid hsB
                        clear hsA hsB
                        have qa := HACT.out RW hR
                        have y1 := qa.c1; have y4 := qa.c4
                        clear qa
                        obtain ⟨v204, e204, g204, f204⟩ := hd 0 204 (by kernel_rfl) rfl
                        have f204 : v204 = .pointer (some ⟨p, 0, none⟩) := f204
                        subst f204
                        obtain ⟨v206, e206, g206, f206⟩ := hd 2 206 (by kernel_rfl) rfl
                        have f206 : v206 = .int .i64 x.i := f206
                        subst f206
                        clear hk hd
                        have HR := Lib.hid hR
                        clear hR
                        go_simp
                        refine (hPC RW _ (SA.out.self rfl)).mono ?_
                        rintro e w2 ⟨rfl, hw⟩
                        obtain ⟨o1, o2, o3⟩ := obj_p (B := w1.heap.size) (X := fun k => k = wr.heap.size) (Nat.le_trans hB0 HR.out.size) (fun k hk => Nat.lt_of_lt_of_le (hX0 k hk) HR.out.size) (SB.out.early (by kernel_rfl)) hS0 hw
                        exact hK _ _ o3 rfl (SideOut.self rfl o1) (SideOut.early (Nat.ne_of_beq_eq_false rfl) (by kernel_rfl) o2)
                      · intro ra RW hR hsA hsB hk hd K hK
                        have SA := Lib.hid hsA
                        have SB := Lib.hid hsB
                        clear hsA hsB
                        have qa := HACT.out RW hR
                        have y1 := qa.c1; have y4 := qa.c4
                        clear qa
                        obtain ⟨e7, g7⟩ := hk 7 (.pointer (some ⟨q, 0, none⟩)) (by kernel_rfl) rfl
                        clear hk hd
                        have HR := Lib.hid hR
                        clear hR
                        go_simp
                        exact hK _ _ (Only.refl _ _) rfl (SA.out.same (Nat.ne_of_beq_eq_false rfl)) (SB.out.same (Nat.ne_of_beq_eq_false rfl))
                      · intro ra RW hR hsA hsB hk hd K hK
                        have SA := Lib.hid hsA
                        have SB := Lib.hid hsB
                        clear hsA hsB
                        have qa := HACT.out RW hR
                        have y1 := qa.c1; have y4 := qa.c4
                        clear qa
                        obtain ⟨e9, g9⟩ := hk 9 (.pointer (some ⟨wr.heap.size, 0, none⟩)) (by kernel_rfl) rfl
                        clear hk hd
                        have HR := Lib.hid hR
                        clear hR
                        go_simp
                        exact hK _ _ (Only.refl _ _) rfl (SA.out.same (Nat.ne_of_beq_eq_false rfl)) (SB.out.same (Nat.ne_of_beq_eq_false rfl))
                      · intro ra RW hR hsA hsB hk hd K hK
                        have SA := Lib.hid hsA
                        have SB := Lib.hid hsB
                        clear hsA hsB
                        have qa := HACT.out RW hR
                        have y1 := qa.c1; have y4 := qa.c4
                        clear qa
                        obtain ⟨v209, e209, g209, f209⟩ := hd 5 209 (by kernel_rfl) rfl
                        have f209 : v209 = .pointer (some ⟨wr.heap.size, 1, none⟩) := f209
                        subst f209
                        clear hk hd
                        have HR := Lib.hid hR
                        clear hR
                        go_simp
                        exact hK _ _ (Only.refl _ _) rfl (SA.out.same (Nat.ne_of_beq_eq_false rfl)) (SB.out.same (Nat.ne_of_beq_eq_false rfl))
                      · intro ra RW hR hsA hsB hk hd K hK
                        have SA := Lib.hid hsA
                        have SB := Lib.hid hsB
                        clear hsA hsB
                        have qa := HACT.out RW hR
                        have y1 := qa.c1; have y4 := qa.c4
                        clear qa
                        obtain ⟨v208, e208, g208, f208⟩ := hd 4 208 (by kernel_rfl) rfl
                        have f208 : v208 = .pointer (some ⟨q, 0, none⟩) := f208
                        subst f208
                        obtain ⟨v210, e210, g210, f210⟩ := hd 6 210 (by kernel_rfl) rfl
                        have f210 : v210 = .int .i64 x.i := f210
                        subst f210
                        clear hk hd
                        have HR := Lib.hid hR
                        clear hR
                        go_simp
                        refine (hRC RW _ (SB.out.self rfl)).mono ?_
                        rintro e w2 ⟨rfl, hw⟩
                        obtain ⟨o1, o2, o3⟩ := obj_r (B := w1.heap.size) (X := fun k => k = wr.heap.size) (Nat.le_trans hB0 HR.out.size) (fun k hk => Nat.lt_of_lt_of_le (hX0 k hk) HR.out.size) (SA.out.late (Nat.ne_of_beq_eq_false rfl) (by kernel_rfl) (by kernel_rfl)) hT0 hw
                        exact hK _ _ o3 rfl (SideOut.late (Nat.ne_of_beq_eq_false rfl) (by kernel_rfl) (by kernel_rfl) o2) (SideOut.self rfl o1)
                      · intro ra RW hR hsA hsB hk hd K hK
                        have SA := Lib.hid hsA
                        have SB := Lib.hid hsB
                        clear hsA hsB
                        have qa := HACT.out RW hR
                        have y1 := qa.c1; have y4 := qa.c4
                        clear qa
                        obtain ⟨v207, e207, g207, f207⟩ := hd 3 207 (by kernel_rfl) rfl
                        have f207 : v207 = .int .i64 E0 := f207
                        subst f207
                        obtain ⟨v211, e211, g211, f211⟩ := hd 7 211 (by kernel_rfl) rfl
                        have f211 : v211 = .int .i64 E0 := f211
                        subst f211
                        clear hk hd
                        have HR := Lib.hid hR
                        clear hR
                        go_simp
                        exact hK _ _ (Only.refl _ _) rfl (SA.out.same (Nat.ne_of_beq_eq_false rfl)) (SB.out.same (Nat.ne_of_beq_eq_false rfl))
                      · intro ra RW hR hsA hsB hk hd K hK
                        have SA := Lib.hid hsA
                        have SB := Lib.hid hsB
                        clear hsA hsB
                        have qa := HACT.out RW hR
                        have y1 := qa.c1; have y4 := qa.c4
                        clear qa
                        obtain ⟨v212, e212, g212, f212⟩ := hd 8 212 (by kernel_rfl) rfl
                        have f212 : v212 = .bool true := f212
                        subst f212
                        clear hk hd
                        have HR := Lib.hid hR
                        clear hR
                        go_simp
                        exact hK _ _ (Only.refl _ _) rfl (SA.out.same (Nat.ne_of_beq_eq_false rfl)) (SB.out.same (Nat.ne_of_beq_eq_false rfl))
                    intro vs RW hR hpA hpB hF
                    have q0 : vs 0 = .pointer (some ⟨p, 0, none⟩) := hF 0 (by decide)
                    have q1 : vs 1 = .pointer (some ⟨wr.heap.size, 1, none⟩) := hF 1 (by decide)
                    have q2 : vs 2 = .int .i64 x.i := hF 2 (by decide)
                    have q3 : vs 3 = .int .i64 E0 := hF 3 (by decide)
                    have q4 : vs 4 = .pointer (some ⟨q, 0, none⟩) := hF 4 (by decide)
                    have q5 : vs 5 = .pointer (some ⟨wr.heap.size, 1, none⟩) := hF 5 (by decide)
                    have q6 : vs 6 = .int .i64 x.i := hF 6 (by decide)
                    have q7 : vs 7 = .int .i64 E0 := hF 7 (by decide)
                    have q8 : vs 8 = .bool true := hF 8 (by decide)
                    have q9 : vs 9 = .bool true := hF 9 (by decide)
                    simp only [setAll, List.setIfInBounds_toArray, List.set_cons_zero, List.set_cons_succ, q0, q1, q2, q3, q4, q5, q6, q7, q8, q9]
                    clear hF q0 q1 q2 q3 q4 q5 q6 q7 q8 q9
                    clear vs
                    have HI7 := Lib.hid hpB
                    have HA7 := Lib.hid (HACT.out RW hR)
                    have hb7 : Below w1.heap.size w5.drew RW := Only.below hR hB0 (fun k hk => hk.1)
                    have hb8 : Below w1.heap.size w5 RW := ⟨hb7.os, hb7.tape, hb7.output, hb7.size, hb7.block⟩
                    have HB7 := Lib.hid (HB5.out.trans hb8)
                    clear hb7 hb8
                    clear hpA hpB hR
                    go_wp2_with fail
                    go_meet
                    case rel => exact ⟨rfl, s2, HI2.out, HB7.out, HI7.out, HA7.out⟩
                  · have b4 : (x.k == 4) = false := by simp [hk4]
                    clear hk4
                    as_aux_lemma =>
                      go_wp2_with fail
                      go_meet
                      case rel => exact ⟨rfl, s, HINV.out.more (by omega), HB5.out, HI5.out, HA5.out⟩
        case rest =>
          obtain ⟨rfl, s2, hinv2, hbc, hic, hac⟩ := hcut
          have HINV2 := Lib.hid hinv2; have HID := Lib.hid hic; have HAD := Lib.hid hac; have HBD := Lib.hid hbc
          have z0 := (hbc.cell (p := ⟨w.heap.size, 0, none⟩) HLT.out).trans HC0.out
          have z1 := hac.c1
          clear hinv2 hbc hic hac HI5 HA5 HB5 HINV
          by_cases hlo : x.i < 0
          · have l0 : ¬ (0 ≤ x.i) := by omega
            have hhh : holdsO s2 x.i = 0 := by unfold holdsO; rw [if_neg (fun h => l0 h.1)]
            as_aux_lemma =>
              go_wp2_with fail
              have HTI : Hid (∀ W, Below wc.drew.heap.size wc.drew W → TIn w1.heap.size (fun k => k = wr.heap.size) W p q s2 s2) := fun W hW => HID.out.below ⟨hW.os, hW.tape, hW.output, hW.size, hW.block⟩
              obtain ⟨T9, hv9, bv9, lv9, hra⟩ := HID.out.ref
              obtain ⟨Al, cl, rfl, -, -⟩ := hra.lo.len_
              have hlo9 := hra.lo
              have hqlt := hra.lt q hra.sp
              have hc2 := hra.c2
              have hnl := HINV2.out.len
              have hFR : Hid (∀ W, Below wc.drew.heap.size wc.drew W → Calls Try.prog 14 #[.pointer (some ⟨p, 0, none⟩)] W (RetNewI W (s2.ln.map (fun k : Nat => (k : Int))))) := fun W hW => by
                obtain ⟨S, hR⟩ := (HTI.out W hW).rep
                exact free_any W hR (by omega)
              have hIN : Hid (∀ W v, Below wc.drew.heap.size wc.drew W → Own W 3 1 v s2.ln.length ((s2.ln.map (fun k : Nat => (k : Int))).map iV) → Calls Try.prog 24 #[v, .slice Al s2.ln.length cl] W fun e w' => e = .returned (.bool true) ∧ ∃ q, w' = W.drewN q) := fun W v hW ho => by
                obtain ⟨Av, cv, rfl, hr, -⟩ := Own.rdI ho
                have hW' : Below wc.heap.size wc W := ⟨hW.os, hW.tape, hW.output, hW.size, hW.block⟩
                have h2 := (hlo9.below hW' fun _ hk => hlo9.lt hk).rd
                rw [nV_map] at h2
                refine (ints_any Av Al s2.ln.length s2.ln.length cv cl _ _ W _ _ hr h2 (by omega) (by omega)).mono ?_
                rintro e w' ⟨rfl, hq⟩
                exact ⟨by simp, hq⟩
              have hBY : Hid (∀ W, Below wc.drew.heap.size wc.drew W → Calls Try.prog 15 #[.pointer (some ⟨p, 0, none⟩)] W fun e w' => e = .returned (.int .i64 (bytesO s2 : Nat)) ∧ Below W.heap.size W w') := fun W hW => by
                obtain ⟨S, hR⟩ := (HTI.out W hW).rep
                exact bytes_any W hR (fun i => by have := HINV2.out.sz i; omega)
              have hRB : Hid (∀ W, Below wc.drew.heap.size wc.drew W → Calls Try.prog 25 #[.pointer (some ⟨q, 0, none⟩)] W fun e w' => e = .returned (.int .i64 (bytesO s2 : Nat)) ∧ W = w') := fun W hW => by
                obtain ⟨S, hR⟩ := (HTI.out W hW).ref
                exact rbytes_any W hR (fun i => by have := HINV2.out.sz i; omega)
              have hHO : Hid (∀ W, Below wc.drew.heap.size wc.drew W → Calls Try.prog 17 #[.pointer (some ⟨p, 0, none⟩), .int .i64 x.i] W fun e w' => e = .returned (.int .i64 0) ∧ W = w') := fun W hW => by
                obtain ⟨S, hR⟩ := (HTI.out W hW).rep
                have := holds_any x.i W hR
                rw [hhh] at this
                exact this
              have HFC : Hid (∀ W, Below wc.drew.heap.size wc.drew W → W.cell? ⟨wr.heap.size, 1, none⟩ = some (.int .i64 x.i) ∧ W.cell? ⟨q, 2, none⟩ = some (.slice Al s2.ln.length cl)) := fun W hW0 => by
                have hW : Below wc.heap.size wc W := ⟨hW0.os, hW0.tape, hW0.output, hW0.size, hW0.block⟩
                exact ⟨(hW.cell (p := ⟨wr.heap.size, 1, none⟩) HAD.out.lt).trans HAD.out.c1, (hW.cell (p := ⟨q, 2, none⟩) hqlt).trans hc2⟩
              have HEND : Hid (∀ W, Below wc.drew.heap.size wc.drew W → TIn w1.heap.size NoT W p q s2 s2 ∧ Below w1.heap.size w1 W) := fun W hW0 => by
                have hW : Below wc.heap.size wc W := ⟨hW0.os, hW0.tape, hW0.output, hW0.size, hW0.block⟩
                exact ⟨(HTI.out W hW0).frame (U := NoT) (Only.refl _ _) (fun _ h => h.elim) (fun _ h => h.elim), HBD.out.trans (hW.mono HBD.out.size)⟩
              have HZL : Hid ((s2.ln.map (fun k : Nat => (k : Int))).length = s2.ln.length) := List.length_map _
              clear hra hlo9 hqlt hc2 HTI hhh HID HAD HBD
              generalize s2.ln.map (fun k : Nat => (k : Int)) = zs at *
              generalize s2.ln.length = nl at *
              generalize bytesO s2 = bb at *
              refine region_rows (by kernel_rfl) (fun W W' => Below W.heap.size W W')
                [.val (.bool true),
                 .val (.bool false),
                 .val (.bool false),
                 .val (.pointer (some ⟨p, 0, none⟩)),
                 ⟨fun v W => Own W 3 1 v nl (zs.map iV), fun _ _ _ h hR => h.below hR fun _ hk => h.lt hk⟩,
                 .val (.pointer (some ⟨q, 0, none⟩)),
                 .val (.pointer (some ⟨q, 0, none⟩)),
                 .val (.pointer (some ⟨q, 2, none⟩)),
                 .val (.slice Al nl cl),
                 .val (.bool true),
                 .val (.bool false),
                 .val (.bool false),
                 .val (.bool false),
                 .val (.pointer (some ⟨p, 0, none⟩)),
                 .val (.int .i64 (bb : Int)),
                 .val (.pointer (some ⟨q, 0, none⟩)),
                 .val (.int .i64 (bb : Int)),
                 .val (.bool false),
                 .val (.bool false),
                 .val (.bool false),
                 .val (.pointer (some ⟨p, 0, none⟩)),
                 .val (.pointer (some ⟨wr.heap.size, 1, none⟩)),
                 .val (.int .i64 x.i),
                 .val (.int .i64 0),
                 .val (.int .i64 0),
                 .val (.bool false),
                 .val (.bool false)]
                (fun W => Below.refl _ W) (fun _ _ _ h k => below_trans h k) (by kernel_rfl) ?_ ?_
              · refine ⟨?_, ?_, ?_, ?_, ?_, ?_, ?_, ?_, ?_, ?_, ?_, ?_, ?_, ?_, ?_, ?_, ?_, ?_, ?_, ?_, ?_, ?_, ?_, ?_, ?_, ?_, ?_, trivial⟩
                · intro ra RW hR hk hd K hK
                  obtain ⟨y1, y2⟩ := HFC.out RW hR
                  obtain ⟨e10, g10⟩ := hk 10 (.bool true) (by kernel_rfl) rfl
                  clear hk hd
                  have HR := Lib.hid hR
                  clear hR
                  go_simp
                  exact hK _ _ (Below.refl _ _) rfl
                · intro ra RW hR hk hd K hK
                  obtain ⟨y1, y2⟩ := HFC.out RW hR
                  obtain ⟨v231, e231, g231, f231⟩ := hd 0 231 (by kernel_rfl) rfl
                  have f231 : v231 = .bool true := f231
                  subst f231
                  clear hk hd
                  have HR := Lib.hid hR
                  clear hR
                  go_simp
                  exact hK _ _ (Below.refl _ _) rfl
                · intro ra RW hR hk hd K hK
                  obtain ⟨y1, y2⟩ := HFC.out RW hR
                  obtain ⟨v232, e232, g232, f232⟩ := hd 1 232 (by kernel_rfl) rfl
                  have f232 : v232 = .bool false := f232
                  subst f232
                  clear hk hd
                  have HR := Lib.hid hR
                  clear hR
                  go_simp
                  exact hK _ _ (Below.refl _ _) rfl
                · intro ra RW hR hk hd K hK
                  obtain ⟨y1, y2⟩ := HFC.out RW hR
                  obtain ⟨e5, g5⟩ := hk 5 (.pointer (some ⟨p, 0, none⟩)) (by kernel_rfl) rfl
                  obtain ⟨v233, e233, g233, f233⟩ := hd 2 233 (by kernel_rfl) rfl
                  have f233 : v233 = .bool false := f233
                  subst f233
                  clear hk hd
                  have HR := Lib.hid hR
                  clear hR
                  go_simp
                  exact hK _ _ (Below.refl _ _) rfl
                · intro ra RW hR hk hd K hK
                  obtain ⟨y1, y2⟩ := HFC.out RW hR
                  obtain ⟨v234, e234, g234, f234⟩ := hd 3 234 (by kernel_rfl) rfl
                  have f234 : v234 = .pointer (some ⟨p, 0, none⟩) := f234
                  subst f234
                  obtain ⟨v233, e233, g233, f233⟩ := hd 2 233 (by kernel_rfl) rfl
                  have f233 : v233 = .bool false := f233
                  subst f233
                  clear hk hd
                  have HR := Lib.hid hR
                  clear hR
                  go_simp
                  refine (hFR.out _ HR.out).mono ?_
                  rintro e w2 ⟨v, rfl, ho, hb, hn⟩
                  rw [HZL.out] at ho
                  exact hK _ _ hb ho
                · intro ra RW hR hk hd K hK
                  obtain ⟨y1, y2⟩ := HFC.out RW hR
                  obtain ⟨e7, g7⟩ := hk 7 (.pointer (some ⟨q, 0, none⟩)) (by kernel_rfl) rfl
                  obtain ⟨v233, e233, g233, f233⟩ := hd 2 233 (by kernel_rfl) rfl
                  have f233 : v233 = .bool false := f233
                  subst f233
                  clear hk hd
                  have HR := Lib.hid hR
                  clear hR
                  go_simp
                  exact hK _ _ (Below.refl _ _) rfl
                · intro ra RW hR hk hd K hK
                  obtain ⟨y1, y2⟩ := HFC.out RW hR
                  obtain ⟨v236, e236, g236, f236⟩ := hd 5 236 (by kernel_rfl) rfl
                  have f236 : v236 = .pointer (some ⟨q, 0, none⟩) := f236
                  subst f236
                  obtain ⟨v233, e233, g233, f233⟩ := hd 2 233 (by kernel_rfl) rfl
                  have f233 : v233 = .bool false := f233
                  subst f233
                  clear hk hd
                  have HR := Lib.hid hR
                  clear hR
                  go_simp
                  exact hK _ _ (Below.refl _ _) rfl
                · intro ra RW hR hk hd K hK
                  obtain ⟨y1, y2⟩ := HFC.out RW hR
                  obtain ⟨v237, e237, g237, f237⟩ := hd 6 237 (by kernel_rfl) rfl
                  have f237 : v237 = .pointer (some ⟨q, 0, none⟩) := f237
                  subst f237
                  obtain ⟨v233, e233, g233, f233⟩ := hd 2 233 (by kernel_rfl) rfl
                  have f233 : v233 = .bool false := f233
                  subst f233
                  clear hk hd
                  have HR := Lib.hid hR
                  clear hR
                  go_simp
                  exact hK _ _ (Below.refl _ _) rfl
                · intro ra RW hR hk hd K hK
                  obtain ⟨y1, y2⟩ := HFC.out RW hR
                  obtain ⟨v238, e238, g238, f238⟩ := hd 7 238 (by kernel_rfl) rfl
                  have f238 : v238 = .pointer (some ⟨q, 2, none⟩) := f238
                  subst f238
                  obtain ⟨v233, e233, g233, f233⟩ := hd 2 233 (by kernel_rfl) rfl
                  have f233 : v233 = .bool false := f233
                  subst f233
                  clear hk hd
                  have HR := Lib.hid hR
                  clear hR
                  go_simp
                  exact hK _ _ (Below.refl _ _) rfl
                · intro ra RW hR hk hd K hK
                  obtain ⟨y1, y2⟩ := HFC.out RW hR
                  obtain ⟨v235, e235, g235, f235⟩ := hd 4 235 (by kernel_rfl) rfl
                  have F235 := Lib.hid f235
                  clear f235
                  obtain ⟨v239, e239, g239, f239⟩ := hd 8 239 (by kernel_rfl) rfl
                  have f239 : v239 = .slice Al nl cl := f239
                  subst f239
                  obtain ⟨v233, e233, g233, f233⟩ := hd 2 233 (by kernel_rfl) rfl
                  have f233 : v233 = .bool false := f233
                  subst f233
                  clear hk hd
                  have HR := Lib.hid hR
                  clear hR
                  go_simp
                  refine (hIN.out _ _ HR.out F235.out).mono ?_
                  rintro e w2 ⟨rfl, qq, rfl⟩
                  exact hK _ _ (below_drewN (Below.refl _ _) qq) rfl
                · intro ra RW hR hk hd K hK
                  obtain ⟨y1, y2⟩ := HFC.out RW hR
                  obtain ⟨v240, e240, g240, f240⟩ := hd 9 240 (by kernel_rfl) rfl
                  have f240 : v240 = .bool true := f240
                  subst f240
                  obtain ⟨v233, e233, g233, f233⟩ := hd 2 233 (by kernel_rfl) rfl
                  have f233 : v233 = .bool false := f233
                  subst f233
                  clear hk hd
                  have HR := Lib.hid hR
                  clear hR
                  go_simp
                  exact hK _ _ (Below.refl _ _) rfl
                · intro ra RW hR hk hd K hK
                  obtain ⟨y1, y2⟩ := HFC.out RW hR
                  obtain ⟨v233, e233, g233, f233⟩ := hd 2 233 (by kernel_rfl) rfl
                  have f233 : v233 = .bool false := f233
                  subst f233
                  obtain ⟨v241, e241, g241, f241⟩ := hd 10 241 (by kernel_rfl) rfl
                  have f241 : v241 = .bool false := f241
                  subst f241
                  clear hk hd
                  have HR := Lib.hid hR
                  clear hR
                  go_simp
                  exact hK _ _ (Below.refl _ _) rfl
                · intro ra RW hR hk hd K hK
                  obtain ⟨y1, y2⟩ := HFC.out RW hR
                  obtain ⟨v242, e242, g242, f242⟩ := hd 11 242 (by kernel_rfl) rfl
                  have f242 : v242 = .bool false := f242
                  subst f242
                  clear hk hd
                  have HR := Lib.hid hR
                  clear hR
                  go_simp
                  exact hK _ _ (Below.refl _ _) rfl
                · intro ra RW hR hk hd K hK
                  obtain ⟨y1, y2⟩ := HFC.out RW hR
                  obtain ⟨e5, g5⟩ := hk 5 (.pointer (some ⟨p, 0, none⟩)) (by kernel_rfl) rfl
                  obtain ⟨v243, e243, g243, f243⟩ := hd 12 243 (by kernel_rfl) rfl
                  have f243 : v243 = .bool false := f243
                  subst f243
                  clear hk hd
                  have HR := Lib.hid hR
                  clear hR
                  go_simp
                  exact hK _ _ (Below.refl _ _) rfl
                · intro ra RW hR hk hd K hK
                  obtain ⟨y1, y2⟩ := HFC.out RW hR
                  obtain ⟨v244, e244, g244, f244⟩ := hd 13 244 (by kernel_rfl) rfl
                  have f244 : v244 = .pointer (some ⟨p, 0, none⟩) := f244
                  subst f244
                  obtain ⟨v243, e243, g243, f243⟩ := hd 12 243 (by kernel_rfl) rfl
                  have f243 : v243 = .bool false := f243
                  subst f243
                  clear hk hd
                  have HR := Lib.hid hR
                  clear hR
                  go_simp
                  refine (hBY.out _ HR.out).mono ?_
                  rintro e w2 ⟨rfl, hb⟩
                  exact hK _ _ hb rfl
                · intro ra RW hR hk hd K hK
                  obtain ⟨y1, y2⟩ := HFC.out RW hR
                  obtain ⟨e7, g7⟩ := hk 7 (.pointer (some ⟨q, 0, none⟩)) (by kernel_rfl) rfl
                  obtain ⟨v243, e243, g243, f243⟩ := hd 12 243 (by kernel_rfl) rfl
                  have f243 : v243 = .bool false := f243
                  subst f243
                  clear hk hd
                  have HR := Lib.hid hR
                  clear hR
                  go_simp
                  exact hK _ _ (Below.refl _ _) rfl
                · intro ra RW hR hk hd K hK
                  obtain ⟨y1, y2⟩ := HFC.out RW hR
                  obtain ⟨v246, e246, g246, f246⟩ := hd 15 246 (by kernel_rfl) rfl
                  have f246 : v246 = .pointer (some ⟨q, 0, none⟩) := f246
                  subst f246
                  obtain ⟨v243, e243, g243, f243⟩ := hd 12 243 (by kernel_rfl) rfl
                  have f243 : v243 = .bool false := f243
                  subst f243
                  clear hk hd
                  have HR := Lib.hid hR
                  clear hR
                  go_simp
                  refine (hRB.out _ HR.out).mono ?_
                  rintro e w2 ⟨rfl, rfl⟩
                  exact hK _ _ (Below.refl _ _) rfl
                · intro ra RW hR hk hd K hK
                  obtain ⟨y1, y2⟩ := HFC.out RW hR
                  obtain ⟨v245, e245, g245, f245⟩ := hd 14 245 (by kernel_rfl) rfl
                  have f245 : v245 = .int .i64 (bb : Int) := f245
                  subst f245
                  obtain ⟨v247, e247, g247, f247⟩ := hd 16 247 (by kernel_rfl) rfl
                  have f247 : v247 = .int .i64 (bb : Int) := f247
                  subst f247
                  obtain ⟨v243, e243, g243, f243⟩ := hd 12 243 (by kernel_rfl) rfl
                  have f243 : v243 = .bool false := f243
                  subst f243
                  clear hk hd
                  have HR := Lib.hid hR
                  clear hR
                  go_simp
                  exact hK _ _ (Below.refl _ _) rfl
                · intro ra RW hR hk hd K hK
                  obtain ⟨y1, y2⟩ := HFC.out RW hR
                  obtain ⟨v243, e243, g243, f243⟩ := hd 12 243 (by kernel_rfl) rfl
                  have f243 : v243 = .bool false := f243
                  subst f243
                  obtain ⟨v248, e248, g248, f248⟩ := hd 17 248 (by kernel_rfl) rfl
                  have f248 : v248 = .bool false := f248
                  subst f248
                  clear hk hd
                  have HR := Lib.hid hR
                  clear hR
                  go_simp
                  exact hK _ _ (Below.refl _ _) rfl
                · intro ra RW hR hk hd K hK
                  obtain ⟨y1, y2⟩ := HFC.out RW hR
                  obtain ⟨v249, e249, g249, f249⟩ := hd 18 249 (by kernel_rfl) rfl
                  have f249 : v249 = .bool false := f249
                  subst f249
                  clear hk hd
                  have HR := Lib.hid hR
                  clear hR
                  go_simp
                  exact hK _ _ (Below.refl _ _) rfl
                · intro ra RW hR hk hd K hK
                  obtain ⟨y1, y2⟩ := HFC.out RW hR
                  obtain ⟨e5, g5⟩ := hk 5 (.pointer (some ⟨p, 0, none⟩)) (by kernel_rfl) rfl
                  obtain ⟨v250, e250, g250, f250⟩ := hd 19 250 (by kernel_rfl) rfl
                  have f250 : v250 = .bool false := f250
                  subst f250
                  clear hk hd
                  have HR := Lib.hid hR
                  clear hR
                  go_simp
                  exact hK _ _ (Below.refl _ _) rfl
                · intro ra RW hR hk hd K hK
                  obtain ⟨y1, y2⟩ := HFC.out RW hR
                  obtain ⟨e9, g9⟩ := hk 9 (.pointer (some ⟨wr.heap.size, 0, none⟩)) (by kernel_rfl) rfl
                  obtain ⟨v250, e250, g250, f250⟩ := hd 19 250 (by kernel_rfl) rfl
                  have f250 : v250 = .bool false := f250
                  subst f250
                  clear hk hd
                  have HR := Lib.hid hR
                  clear hR
                  go_simp
                  exact hK _ _ (Below.refl _ _) rfl
                · intro ra RW hR hk hd K hK
                  obtain ⟨y1, y2⟩ := HFC.out RW hR
                  obtain ⟨v252, e252, g252, f252⟩ := hd 21 252 (by kernel_rfl) rfl
                  have f252 : v252 = .pointer (some ⟨wr.heap.size, 1, none⟩) := f252
                  subst f252
                  obtain ⟨v250, e250, g250, f250⟩ := hd 19 250 (by kernel_rfl) rfl
                  have f250 : v250 = .bool false := f250
                  subst f250
                  clear hk hd
                  have HR := Lib.hid hR
                  clear hR
                  go_simp
                  exact hK _ _ (Below.refl _ _) rfl
                · intro ra RW hR hk hd K hK
                  obtain ⟨y1, y2⟩ := HFC.out RW hR
                  obtain ⟨v251, e251, g251, f251⟩ := hd 20 251 (by kernel_rfl) rfl
                  have f251 : v251 = .pointer (some ⟨p, 0, none⟩) := f251
                  subst f251
                  obtain ⟨v253, e253, g253, f253⟩ := hd 22 253 (by kernel_rfl) rfl
                  have f253 : v253 = .int .i64 x.i := f253
                  subst f253
                  obtain ⟨v250, e250, g250, f250⟩ := hd 19 250 (by kernel_rfl) rfl
                  have f250 : v250 = .bool false := f250
                  subst f250
                  clear hk hd
                  have HR := Lib.hid hR
                  clear hR
                  go_simp
                  refine (hHO.out _ HR.out).mono ?_
                  rintro e w2 ⟨rfl, rfl⟩
                  exact hK _ _ (Below.refl _ _) rfl
                · intro ra RW hR hk hd K hK
                  obtain ⟨y1, y2⟩ := HFC.out RW hR
                  obtain ⟨e20, g20⟩ := hk 20 (.int .i64 0) (by kernel_rfl) rfl
                  obtain ⟨v250, e250, g250, f250⟩ := hd 19 250 (by kernel_rfl) rfl
                  have f250 : v250 = .bool false := f250
                  subst f250
                  clear hk hd
                  have HR := Lib.hid hR
                  clear hR
                  go_simp
                  exact hK _ _ (Below.refl _ _) rfl
                · intro ra RW hR hk hd K hK
                  obtain ⟨y1, y2⟩ := HFC.out RW hR
                  obtain ⟨v254, e254, g254, f254⟩ := hd 23 254 (by kernel_rfl) rfl
                  have f254 : v254 = .int .i64 0 := f254
                  subst f254
                  obtain ⟨v255, e255, g255, f255⟩ := hd 24 255 (by kernel_rfl) rfl
                  have f255 : v255 = .int .i64 0 := f255
                  subst f255
                  obtain ⟨v250, e250, g250, f250⟩ := hd 19 250 (by kernel_rfl) rfl
                  have f250 : v250 = .bool false := f250
                  subst f250
                  clear hk hd
                  have HR := Lib.hid hR
                  clear hR
                  go_simp
                  exact hK _ _ (Below.refl _ _) rfl
                · intro ra RW hR hk hd K hK
                  obtain ⟨y1, y2⟩ := HFC.out RW hR
                  obtain ⟨v250, e250, g250, f250⟩ := hd 19 250 (by kernel_rfl) rfl
                  have f250 : v250 = .bool false := f250
                  subst f250
                  obtain ⟨v256, e256, g256, f256⟩ := hd 25 256 (by kernel_rfl) rfl
                  have f256 : v256 = .bool false := f256
                  subst f256
                  clear hk hd
                  have HR := Lib.hid hR
                  clear hR
                  go_simp
                  exact hK _ _ (Below.refl _ _) rfl
              intro vs RW hR hF
              have q0 : vs 0 = .bool true := hF 0 (by decide)
              have q1 : vs 1 = .bool false := hF 1 (by decide)
              have q2 : vs 2 = .bool false := hF 2 (by decide)
              have q3 : vs 3 = .pointer (some ⟨p, 0, none⟩) := hF 3 (by decide)
              have F235 := Lib.hid (hF 4 (by decide))
              have q5 : vs 5 = .pointer (some ⟨q, 0, none⟩) := hF 5 (by decide)
              have q6 : vs 6 = .pointer (some ⟨q, 0, none⟩) := hF 6 (by decide)
              have q7 : vs 7 = .pointer (some ⟨q, 2, none⟩) := hF 7 (by decide)
              have q8 : vs 8 = .slice Al nl cl := hF 8 (by decide)
              have q9 : vs 9 = .bool true := hF 9 (by decide)
              have q10 : vs 10 = .bool false := hF 10 (by decide)
              have q11 : vs 11 = .bool false := hF 11 (by decide)
              have q12 : vs 12 = .bool false := hF 12 (by decide)
              have q13 : vs 13 = .pointer (some ⟨p, 0, none⟩) := hF 13 (by decide)
              have q14 : vs 14 = .int .i64 (bb : Int) := hF 14 (by decide)
              have q15 : vs 15 = .pointer (some ⟨q, 0, none⟩) := hF 15 (by decide)
              have q16 : vs 16 = .int .i64 (bb : Int) := hF 16 (by decide)
              have q17 : vs 17 = .bool false := hF 17 (by decide)
              have q18 : vs 18 = .bool false := hF 18 (by decide)
              have q19 : vs 19 = .bool false := hF 19 (by decide)
              have q20 : vs 20 = .pointer (some ⟨p, 0, none⟩) := hF 20 (by decide)
              have q21 : vs 21 = .pointer (some ⟨wr.heap.size, 1, none⟩) := hF 21 (by decide)
              have q22 : vs 22 = .int .i64 x.i := hF 22 (by decide)
              have q23 : vs 23 = .int .i64 0 := hF 23 (by decide)
              have q24 : vs 24 = .int .i64 0 := hF 24 (by decide)
              have q25 : vs 25 = .bool false := hF 25 (by decide)
              have q26 : vs 26 = .bool false := hF 26 (by decide)
              simp only [setAll, List.setIfInBounds_toArray, List.set_cons_zero, List.set_cons_succ, q0, q1, q2, q3, q5, q6, q7, q8, q9, q10, q11, q12, q13, q14, q15, q16, q17, q18, q19, q20, q21, q22, q23, q24, q25, q26]
              clear hF q0 q1 q2 q3 q5 q6 q7 q8 q9 q10 q11 q12 q13 q14 q15 q16 q17 q18 q19 q20 q21 q22 q23 q24 q25 q26
              generalize vs 4 = v235 at *
              clear vs
              obtain ⟨hi9, hb9⟩ := HEND.out RW hR
              have HI9 := Lib.hid hi9; have HB9 := Lib.hid hb9
              clear hi9 hb9 hR
              go_wp2_with fail
              go_roundw
              case rel => exact ⟨j + 1, s2, by omega, by go_num, HINV2.out, HB9.out, HI9.out⟩
              case measure => simp [intOf]; omega
          · by_cases hhi : (n : Int) ≤ x.i
            · have l0 : 0 ≤ x.i := by omega
              have l1 : ¬ x.i < (n : Int) := by omega
              have hhh : holdsO s2 x.i = 0 := by unfold holdsO; rw [if_neg (fun h => by have := h.2.1; rw [HINV2.out.hl] at this; omega)]
              as_aux_lemma =>
                go_wp2_with fail
                have HTI : Hid (∀ W, Below wc.drew.heap.size wc.drew W → TIn w1.heap.size (fun k => k = wr.heap.size) W p q s2 s2) := fun W hW => HID.out.below ⟨hW.os, hW.tape, hW.output, hW.size, hW.block⟩
                obtain ⟨T9, hv9, bv9, lv9, hra⟩ := HID.out.ref
                obtain ⟨Al, cl, rfl, -, -⟩ := hra.lo.len_
                have hlo9 := hra.lo
                have hqlt := hra.lt q hra.sp
                have hc2 := hra.c2
                have hnl := HINV2.out.len
                have hFR : Hid (∀ W, Below wc.drew.heap.size wc.drew W → Calls Try.prog 14 #[.pointer (some ⟨p, 0, none⟩)] W (RetNewI W (s2.ln.map (fun k : Nat => (k : Int))))) := fun W hW => by
                  obtain ⟨S, hR⟩ := (HTI.out W hW).rep
                  exact free_any W hR (by omega)
                have hIN : Hid (∀ W v, Below wc.drew.heap.size wc.drew W → Own W 3 1 v s2.ln.length ((s2.ln.map (fun k : Nat => (k : Int))).map iV) → Calls Try.prog 24 #[v, .slice Al s2.ln.length cl] W fun e w' => e = .returned (.bool true) ∧ ∃ q, w' = W.drewN q) := fun W v hW ho => by
                  obtain ⟨Av, cv, rfl, hr, -⟩ := Own.rdI ho
                  have hW' : Below wc.heap.size wc W := ⟨hW.os, hW.tape, hW.output, hW.size, hW.block⟩
                  have h2 := (hlo9.below hW' fun _ hk => hlo9.lt hk).rd
                  rw [nV_map] at h2
                  refine (ints_any Av Al s2.ln.length s2.ln.length cv cl _ _ W _ _ hr h2 (by omega) (by omega)).mono ?_
                  rintro e w' ⟨rfl, hq⟩
                  exact ⟨by simp, hq⟩
                have hBY : Hid (∀ W, Below wc.drew.heap.size wc.drew W → Calls Try.prog 15 #[.pointer (some ⟨p, 0, none⟩)] W fun e w' => e = .returned (.int .i64 (bytesO s2 : Nat)) ∧ Below W.heap.size W w') := fun W hW => by
                  obtain ⟨S, hR⟩ := (HTI.out W hW).rep
                  exact bytes_any W hR (fun i => by have := HINV2.out.sz i; omega)
                have hRB : Hid (∀ W, Below wc.drew.heap.size wc.drew W → Calls Try.prog 25 #[.pointer (some ⟨q, 0, none⟩)] W fun e w' => e = .returned (.int .i64 (bytesO s2 : Nat)) ∧ W = w') := fun W hW => by
                  obtain ⟨S, hR⟩ := (HTI.out W hW).ref
                  exact rbytes_any W hR (fun i => by have := HINV2.out.sz i; omega)
                have hHO : Hid (∀ W, Below wc.drew.heap.size wc.drew W → Calls Try.prog 17 #[.pointer (some ⟨p, 0, none⟩), .int .i64 x.i] W fun e w' => e = .returned (.int .i64 0) ∧ W = w') := fun W hW => by
                  obtain ⟨S, hR⟩ := (HTI.out W hW).rep
                  have := holds_any x.i W hR
                  rw [hhh] at this
                  exact this
                have HFC : Hid (∀ W, Below wc.drew.heap.size wc.drew W → W.cell? ⟨wr.heap.size, 1, none⟩ = some (.int .i64 x.i) ∧ W.cell? ⟨q, 2, none⟩ = some (.slice Al s2.ln.length cl)) := fun W hW0 => by
                  have hW : Below wc.heap.size wc W := ⟨hW0.os, hW0.tape, hW0.output, hW0.size, hW0.block⟩
                  exact ⟨(hW.cell (p := ⟨wr.heap.size, 1, none⟩) HAD.out.lt).trans HAD.out.c1, (hW.cell (p := ⟨q, 2, none⟩) hqlt).trans hc2⟩
                have HEND : Hid (∀ W, Below wc.drew.heap.size wc.drew W → TIn w1.heap.size NoT W p q s2 s2 ∧ Below w1.heap.size w1 W) := fun W hW0 => by
                  have hW : Below wc.heap.size wc W := ⟨hW0.os, hW0.tape, hW0.output, hW0.size, hW0.block⟩
                  exact ⟨(HTI.out W hW0).frame (U := NoT) (Only.refl _ _) (fun _ h => h.elim) (fun _ h => h.elim), HBD.out.trans (hW.mono HBD.out.size)⟩
                have HZL : Hid ((s2.ln.map (fun k : Nat => (k : Int))).length = s2.ln.length) := List.length_map _
                clear hra hlo9 hqlt hc2 HTI hhh HID HAD HBD
                generalize s2.ln.map (fun k : Nat => (k : Int)) = zs at *
                generalize s2.ln.length = nl at *
                generalize bytesO s2 = bb at *
                refine region_rows (by kernel_rfl) (fun W W' => Below W.heap.size W W')
                  [.val (.bool true),
                   .val (.bool false),
                   .val (.bool false),
                   .val (.pointer (some ⟨p, 0, none⟩)),
                   ⟨fun v W => Own W 3 1 v nl (zs.map iV), fun _ _ _ h hR => h.below hR fun _ hk => h.lt hk⟩,
                   .val (.pointer (some ⟨q, 0, none⟩)),
                   .val (.pointer (some ⟨q, 0, none⟩)),
                   .val (.pointer (some ⟨q, 2, none⟩)),
                   .val (.slice Al nl cl),
                   .val (.bool true),
                   .val (.bool false),
                   .val (.bool false),
                   .val (.bool false),
                   .val (.pointer (some ⟨p, 0, none⟩)),
                   .val (.int .i64 (bb : Int)),
                   .val (.pointer (some ⟨q, 0, none⟩)),
                   .val (.int .i64 (bb : Int)),
                   .val (.bool false),
                   .val (.bool false),
                   .val (.bool false),
                   .val (.pointer (some ⟨p, 0, none⟩)),
                   .val (.pointer (some ⟨wr.heap.size, 1, none⟩)),
                   .val (.int .i64 x.i),
                   .val (.int .i64 0),
                   .val (.int .i64 0),
                   .val (.bool false),
                   .val (.bool false)]
                  (fun W => Below.refl _ W) (fun _ _ _ h k => below_trans h k) (by kernel_rfl) ?_ ?_
                · refine ⟨?_, ?_, ?_, ?_, ?_, ?_, ?_, ?_, ?_, ?_, ?_, ?_, ?_, ?_, ?_, ?_, ?_, ?_, ?_, ?_, ?_, ?_, ?_, ?_, ?_, ?_, ?_, trivial⟩
                  · intro ra RW hR hk hd K hK
                    obtain ⟨y1, y2⟩ := HFC.out RW hR
                    obtain ⟨e10, g10⟩ := hk 10 (.bool true) (by kernel_rfl) rfl
                    clear hk hd
                    have HR := Lib.hid hR
                    clear hR
                    go_simp
                    exact hK _ _ (Below.refl _ _) rfl
                  · intro ra RW hR hk hd K hK
                    obtain ⟨y1, y2⟩ := HFC.out RW hR
                    obtain ⟨v231, e231, g231, f231⟩ := hd 0 231 (by kernel_rfl) rfl
                    have f231 : v231 = .bool true := f231
                    subst f231
                    clear hk hd
                    have HR := Lib.hid hR
                    clear hR
                    go_simp
                    exact hK _ _ (Below.refl _ _) rfl
                  · intro ra RW hR hk hd K hK
                    obtain ⟨y1, y2⟩ := HFC.out RW hR
                    obtain ⟨v232, e232, g232, f232⟩ := hd 1 232 (by kernel_rfl) rfl
                    have f232 : v232 = .bool false := f232
                    subst f232
                    clear hk hd
                    have HR := Lib.hid hR
                    clear hR
                    go_simp
                    exact hK _ _ (Below.refl _ _) rfl
                  · intro ra RW hR hk hd K hK
                    obtain ⟨y1, y2⟩ := HFC.out RW hR
                    obtain ⟨e5, g5⟩ := hk 5 (.pointer (some ⟨p, 0, none⟩)) (by kernel_rfl) rfl
                    obtain ⟨v233, e233, g233, f233⟩ := hd 2 233 (by kernel_rfl) rfl
                    have f233 : v233 = .bool false := f233
                    subst f233
                    clear hk hd
                    have HR := Lib.hid hR
                    clear hR
                    go_simp
                    exact hK _ _ (Below.refl _ _) rfl
                  · intro ra RW hR hk hd K hK
                    obtain ⟨y1, y2⟩ := HFC.out RW hR
                    obtain ⟨v234, e234, g234, f234⟩ := hd 3 234 (by kernel_rfl) rfl
                    have f234 : v234 = .pointer (some ⟨p, 0, none⟩) := f234
                    subst f234
                    obtain ⟨v233, e233, g233, f233⟩ := hd 2 233 (by kernel_rfl) rfl
                    have f233 : v233 = .bool false := f233
                    subst f233
                    clear hk hd
                    have HR := Lib.hid hR
                    clear hR
                    go_simp
                    refine (hFR.out _ HR.out).mono ?_
                    rintro e w2 ⟨v, rfl, ho, hb, hn⟩
                    rw [HZL.out] at ho
                    exact hK _ _ hb ho
                  · intro ra RW hR hk hd K hK
                    obtain ⟨y1, y2⟩ := HFC.out RW hR
                    obtain ⟨e7, g7⟩ := hk 7 (.pointer (some ⟨q, 0, none⟩)) (by kernel_rfl) rfl
                    obtain ⟨v233, e233, g233, f233⟩ := hd 2 233 (by kernel_rfl) rfl
                    have f233 : v233 = .bool false := f233
                    subst f233
                    clear hk hd
                    have HR := Lib.hid hR
                    clear hR
                    go_simp
                    exact hK _ _ (Below.refl _ _) rfl
                  · intro ra RW hR hk hd K hK
                    obtain ⟨y1, y2⟩ := HFC.out RW hR
                    obtain ⟨v236, e236, g236, f236⟩ := hd 5 236 (by kernel_rfl) rfl
                    have f236 : v236 = .pointer (some ⟨q, 0, none⟩) := f236
                    subst f236
                    obtain ⟨v233, e233, g233, f233⟩ := hd 2 233 (by kernel_rfl) rfl
                    have f233 : v233 = .bool false := f233
                    subst f233
                    clear hk hd
                    have HR := Lib.hid hR
                    clear hR
                    go_simp
                    exact hK _ _ (Below.refl _ _) rfl
                  · intro ra RW hR hk hd K hK
                    obtain ⟨y1, y2⟩ := HFC.out RW hR
                    obtain ⟨v237, e237, g237, f237⟩ := hd 6 237 (by kernel_rfl) rfl
                    have f237 : v237 = .pointer (some ⟨q, 0, none⟩) := f237
                    subst f237
                    obtain ⟨v233, e233, g233, f233⟩ := hd 2 233 (by kernel_rfl) rfl
                    have f233 : v233 = .bool false := f233
                    subst f233
                    clear hk hd
                    have HR := Lib.hid hR
                    clear hR
                    go_simp
                    exact hK _ _ (Below.refl _ _) rfl
                  · intro ra RW hR hk hd K hK
                    obtain ⟨y1, y2⟩ := HFC.out RW hR
                    obtain ⟨v238, e238, g238, f238⟩ := hd 7 238 (by kernel_rfl) rfl
                    have f238 : v238 = .pointer (some ⟨q, 2, none⟩) := f238
                    subst f238
                    obtain ⟨v233, e233, g233, f233⟩ := hd 2 233 (by kernel_rfl) rfl
                    have f233 : v233 = .bool false := f233
                    subst f233
                    clear hk hd
                    have HR := Lib.hid hR
                    clear hR
                    go_simp
                    exact hK _ _ (Below.refl _ _) rfl
                  · intro ra RW hR hk hd K hK
                    obtain ⟨y1, y2⟩ := HFC.out RW hR
                    obtain ⟨v235, e235, g235, f235⟩ := hd 4 235 (by kernel_rfl) rfl
                    have F235 := Lib.hid f235
                    clear f235
                    obtain ⟨v239, e239, g239, f239⟩ := hd 8 239 (by kernel_rfl) rfl
                    have f239 : v239 = .slice Al nl cl := f239
                    subst f239
                    obtain ⟨v233, e233, g233, f233⟩ := hd 2 233 (by kernel_rfl) rfl
                    have f233 : v233 = .bool false := f233
                    subst f233
                    clear hk hd
                    have HR := Lib.hid hR
                    clear hR
                    go_simp
                    refine (hIN.out _ _ HR.out F235.out).mono ?_
                    rintro e w2 ⟨rfl, qq, rfl⟩
                    exact hK _ _ (below_drewN (Below.refl _ _) qq) rfl
                  · intro ra RW hR hk hd K hK
                    obtain ⟨y1, y2⟩ := HFC.out RW hR
                    obtain ⟨v240, e240, g240, f240⟩ := hd 9 240 (by kernel_rfl) rfl
                    have f240 : v240 = .bool true := f240
                    subst f240
                    obtain ⟨v233, e233, g233, f233⟩ := hd 2 233 (by kernel_rfl) rfl
                    have f233 : v233 = .bool false := f233
                    subst f233
                    clear hk hd
                    have HR := Lib.hid hR
                    clear hR
                    go_simp
                    exact hK _ _ (Below.refl _ _) rfl
                  · intro ra RW hR hk hd K hK
                    obtain ⟨y1, y2⟩ := HFC.out RW hR
                    obtain ⟨v233, e233, g233, f233⟩ := hd 2 233 (by kernel_rfl) rfl
                    have f233 : v233 = .bool false := f233
                    subst f233
                    obtain ⟨v241, e241, g241, f241⟩ := hd 10 241 (by kernel_rfl) rfl
                    have f241 : v241 = .bool false := f241
                    subst f241
                    clear hk hd
                    have HR := Lib.hid hR
                    clear hR
                    go_simp
                    exact hK _ _ (Below.refl _ _) rfl
                  · intro ra RW hR hk hd K hK
                    obtain ⟨y1, y2⟩ := HFC.out RW hR
                    obtain ⟨v242, e242, g242, f242⟩ := hd 11 242 (by kernel_rfl) rfl
                    have f242 : v242 = .bool false := f242
                    subst f242
                    clear hk hd
                    have HR := Lib.hid hR
                    clear hR
                    go_simp
                    exact hK _ _ (Below.refl _ _) rfl
                  · intro ra RW hR hk hd K hK
                    obtain ⟨y1, y2⟩ := HFC.out RW hR
                    obtain ⟨e5, g5⟩ := hk 5 (.pointer (some ⟨p, 0, none⟩)) (by kernel_rfl) rfl
                    obtain ⟨v243, e243, g243, f243⟩ := hd 12 243 (by kernel_rfl) rfl
                    have f243 : v243 = .bool false := f243
                    subst f243
                    clear hk hd
                    have HR := Lib.hid hR
                    clear hR
                    go_simp
                    exact hK _ _ (Below.refl _ _) rfl
                  · intro ra RW hR hk hd K hK
                    obtain ⟨y1, y2⟩ := HFC.out RW hR
                    obtain ⟨v244, e244, g244, f244⟩ := hd 13 244 (by kernel_rfl) rfl
                    have f244 : v244 = .pointer (some ⟨p, 0, none⟩) := f244
                    subst f244
                    obtain ⟨v243, e243, g243, f243⟩ := hd 12 243 (by kernel_rfl) rfl
                    have f243 : v243 = .bool false := f243
                    subst f243
                    clear hk hd
                    have HR := Lib.hid hR
                    clear hR
                    go_simp
                    refine (hBY.out _ HR.out).mono ?_
                    rintro e w2 ⟨rfl, hb⟩
                    exact hK _ _ hb rfl
                  · intro ra RW hR hk hd K hK
                    obtain ⟨y1, y2⟩ := HFC.out RW hR
                    obtain ⟨e7, g7⟩ := hk 7 (.pointer (some ⟨q, 0, none⟩)) (by kernel_rfl) rfl
                    obtain ⟨v243, e243, g243, f243⟩ := hd 12 243 (by kernel_rfl) rfl
                    have f243 : v243 = .bool false := f243
                    subst f243
                    clear hk hd
                    have HR := Lib.hid hR
                    clear hR
                    go_simp
                    exact hK _ _ (Below.refl _ _) rfl
                  · intro ra RW hR hk hd K hK
                    obtain ⟨y1, y2⟩ := HFC.out RW hR
                    obtain ⟨v246, e246, g246, f246⟩ := hd 15 246 (by kernel_rfl) rfl
                    have f246 : v246 = .pointer (some ⟨q, 0, none⟩) := f246
                    subst f246
                    obtain ⟨v243, e243, g243, f243⟩ := hd 12 243 (by kernel_rfl) rfl
                    have f243 : v243 = .bool false := f243
                    subst f243
                    clear hk hd
                    have HR := Lib.hid hR
                    clear hR
                    go_simp
                    refine (hRB.out _ HR.out).mono ?_
                    rintro e w2 ⟨rfl, rfl⟩
                    exact hK _ _ (Below.refl _ _) rfl
                  · intro ra RW hR hk hd K hK
                    obtain ⟨y1, y2⟩ := HFC.out RW hR
                    obtain ⟨v245, e245, g245, f245⟩ := hd 14 245 (by kernel_rfl) rfl
                    have f245 : v245 = .int .i64 (bb : Int) := f245
                    subst f245
                    obtain ⟨v247, e247, g247, f247⟩ := hd 16 247 (by kernel_rfl) rfl
                    have f247 : v247 = .int .i64 (bb : Int) := f247
                    subst f247
                    obtain ⟨v243, e243, g243, f243⟩ := hd 12 243 (by kernel_rfl) rfl
                    have f243 : v243 = .bool false := f243
                    subst f243
                    clear hk hd
                    have HR := Lib.hid hR
                    clear hR
                    go_simp
                    exact hK _ _ (Below.refl _ _) rfl
                  · intro ra RW hR hk hd K hK
                    obtain ⟨y1, y2⟩ := HFC.out RW hR
                    obtain ⟨v243, e243, g243, f243⟩ := hd 12 243 (by kernel_rfl) rfl
                    have f243 : v243 = .bool false := f243
                    subst f243
                    obtain ⟨v248, e248, g248, f248⟩ := hd 17 248 (by kernel_rfl) rfl
                    have f248 : v248 = .bool false := f248
                    subst f248
                    clear hk hd
                    have HR := Lib.hid hR
                    clear hR
                    go_simp
                    exact hK _ _ (Below.refl _ _) rfl
                  · intro ra RW hR hk hd K hK
                    obtain ⟨y1, y2⟩ := HFC.out RW hR
                    obtain ⟨v249, e249, g249, f249⟩ := hd 18 249 (by kernel_rfl) rfl
                    have f249 : v249 = .bool false := f249
                    subst f249
                    clear hk hd
                    have HR := Lib.hid hR
                    clear hR
                    go_simp
                    exact hK _ _ (Below.refl _ _) rfl
                  · intro ra RW hR hk hd K hK
                    obtain ⟨y1, y2⟩ := HFC.out RW hR
                    obtain ⟨e5, g5⟩ := hk 5 (.pointer (some ⟨p, 0, none⟩)) (by kernel_rfl) rfl
                    obtain ⟨v250, e250, g250, f250⟩ := hd 19 250 (by kernel_rfl) rfl
                    have f250 : v250 = .bool false := f250
                    subst f250
                    clear hk hd
                    have HR := Lib.hid hR
                    clear hR
                    go_simp
                    exact hK _ _ (Below.refl _ _) rfl
                  · intro ra RW hR hk hd K hK
                    obtain ⟨y1, y2⟩ := HFC.out RW hR
                    obtain ⟨e9, g9⟩ := hk 9 (.pointer (some ⟨wr.heap.size, 0, none⟩)) (by kernel_rfl) rfl
                    obtain ⟨v250, e250, g250, f250⟩ := hd 19 250 (by kernel_rfl) rfl
                    have f250 : v250 = .bool false := f250
                    subst f250
                    clear hk hd
                    have HR := Lib.hid hR
                    clear hR
                    go_simp
                    exact hK _ _ (Below.refl _ _) rfl
                  · intro ra RW hR hk hd K hK
                    obtain ⟨y1, y2⟩ := HFC.out RW hR
                    obtain ⟨v252, e252, g252, f252⟩ := hd 21 252 (by kernel_rfl) rfl
                    have f252 : v252 = .pointer (some ⟨wr.heap.size, 1, none⟩) := f252
                    subst f252
                    obtain ⟨v250, e250, g250, f250⟩ := hd 19 250 (by kernel_rfl) rfl
                    have f250 : v250 = .bool false := f250
                    subst f250
                    clear hk hd
                    have HR := Lib.hid hR
                    clear hR
                    go_simp
                    exact hK _ _ (Below.refl _ _) rfl
                  · intro ra RW hR hk hd K hK
                    obtain ⟨y1, y2⟩ := HFC.out RW hR
                    obtain ⟨v251, e251, g251, f251⟩ := hd 20 251 (by kernel_rfl) rfl
                    have f251 : v251 = .pointer (some ⟨p, 0, none⟩) := f251
                    subst f251
                    obtain ⟨v253, e253, g253, f253⟩ := hd 22 253 (by kernel_rfl) rfl
                    have f253 : v253 = .int .i64 x.i := f253
                    subst f253
                    obtain ⟨v250, e250, g250, f250⟩ := hd 19 250 (by kernel_rfl) rfl
                    have f250 : v250 = .bool false := f250
                    subst f250
                    clear hk hd
                    have HR := Lib.hid hR
                    clear hR
                    go_simp
                    refine (hHO.out _ HR.out).mono ?_
                    rintro e w2 ⟨rfl, rfl⟩
                    exact hK _ _ (Below.refl _ _) rfl
                  · intro ra RW hR hk hd K hK
                    obtain ⟨y1, y2⟩ := HFC.out RW hR
                    obtain ⟨e20, g20⟩ := hk 20 (.int .i64 0) (by kernel_rfl) rfl
                    obtain ⟨v250, e250, g250, f250⟩ := hd 19 250 (by kernel_rfl) rfl
                    have f250 : v250 = .bool false := f250
                    subst f250
                    clear hk hd
                    have HR := Lib.hid hR
                    clear hR
                    go_simp
                    exact hK _ _ (Below.refl _ _) rfl
                  · intro ra RW hR hk hd K hK
                    obtain ⟨y1, y2⟩ := HFC.out RW hR
                    obtain ⟨v254, e254, g254, f254⟩ := hd 23 254 (by kernel_rfl) rfl
                    have f254 : v254 = .int .i64 0 := f254
                    subst f254
                    obtain ⟨v255, e255, g255, f255⟩ := hd 24 255 (by kernel_rfl) rfl
                    have f255 : v255 = .int .i64 0 := f255
                    subst f255
                    obtain ⟨v250, e250, g250, f250⟩ := hd 19 250 (by kernel_rfl) rfl
                    have f250 : v250 = .bool false := f250
                    subst f250
                    clear hk hd
                    have HR := Lib.hid hR
                    clear hR
                    go_simp
                    exact hK _ _ (Below.refl _ _) rfl
                  · intro ra RW hR hk hd K hK
                    obtain ⟨y1, y2⟩ := HFC.out RW hR
                    obtain ⟨v250, e250, g250, f250⟩ := hd 19 250 (by kernel_rfl) rfl
                    have f250 : v250 = .bool false := f250
                    subst f250
                    obtain ⟨v256, e256, g256, f256⟩ := hd 25 256 (by kernel_rfl) rfl
                    have f256 : v256 = .bool false := f256
                    subst f256
                    clear hk hd
                    have HR := Lib.hid hR
                    clear hR
                    go_simp
                    exact hK _ _ (Below.refl _ _) rfl
                intro vs RW hR hF
                have q0 : vs 0 = .bool true := hF 0 (by decide)
                have q1 : vs 1 = .bool false := hF 1 (by decide)
                have q2 : vs 2 = .bool false := hF 2 (by decide)
                have q3 : vs 3 = .pointer (some ⟨p, 0, none⟩) := hF 3 (by decide)
                have F235 := Lib.hid (hF 4 (by decide))
                have q5 : vs 5 = .pointer (some ⟨q, 0, none⟩) := hF 5 (by decide)
                have q6 : vs 6 = .pointer (some ⟨q, 0, none⟩) := hF 6 (by decide)
                have q7 : vs 7 = .pointer (some ⟨q, 2, none⟩) := hF 7 (by decide)
                have q8 : vs 8 = .slice Al nl cl := hF 8 (by decide)
                have q9 : vs 9 = .bool true := hF 9 (by decide)
                have q10 : vs 10 = .bool false := hF 10 (by decide)
                have q11 : vs 11 = .bool false := hF 11 (by decide)
                have q12 : vs 12 = .bool false := hF 12 (by decide)
                have q13 : vs 13 = .pointer (some ⟨p, 0, none⟩) := hF 13 (by decide)
                have q14 : vs 14 = .int .i64 (bb : Int) := hF 14 (by decide)
                have q15 : vs 15 = .pointer (some ⟨q, 0, none⟩) := hF 15 (by decide)
                have q16 : vs 16 = .int .i64 (bb : Int) := hF 16 (by decide)
                have q17 : vs 17 = .bool false := hF 17 (by decide)
                have q18 : vs 18 = .bool false := hF 18 (by decide)
                have q19 : vs 19 = .bool false := hF 19 (by decide)
                have q20 : vs 20 = .pointer (some ⟨p, 0, none⟩) := hF 20 (by decide)
                have q21 : vs 21 = .pointer (some ⟨wr.heap.size, 1, none⟩) := hF 21 (by decide)
                have q22 : vs 22 = .int .i64 x.i := hF 22 (by decide)
                have q23 : vs 23 = .int .i64 0 := hF 23 (by decide)
                have q24 : vs 24 = .int .i64 0 := hF 24 (by decide)
                have q25 : vs 25 = .bool false := hF 25 (by decide)
                have q26 : vs 26 = .bool false := hF 26 (by decide)
                simp only [setAll, List.setIfInBounds_toArray, List.set_cons_zero, List.set_cons_succ, q0, q1, q2, q3, q5, q6, q7, q8, q9, q10, q11, q12, q13, q14, q15, q16, q17, q18, q19, q20, q21, q22, q23, q24, q25, q26]
                clear hF q0 q1 q2 q3 q5 q6 q7 q8 q9 q10 q11 q12 q13 q14 q15 q16 q17 q18 q19 q20 q21 q22 q23 q24 q25 q26
                generalize vs 4 = v235 at *
                clear vs
                obtain ⟨hi9, hb9⟩ := HEND.out RW hR
                have HI9 := Lib.hid hi9; have HB9 := Lib.hid hb9
                clear hi9 hb9 hR
                go_wp2_with fail
                go_roundw
                case rel => exact ⟨j + 1, s2, by omega, by go_num, HINV2.out, HB9.out, HI9.out⟩
                case measure => simp [intOf]; omega
            · obtain ⟨k, hk⟩ := Int.eq_ofNat_of_zero_le (show 0 ≤ x.i by omega)
              have hkn : k < n := by omega
              have l0 : 0 ≤ x.i := by omega
              have l1 : x.i < (n : Int) := by omega
              have hhh0 : holdsO s2 x.i = s2.hs.getD k 0 := by rw [hk]; exact HINV2.out.holds hkn
              obtain ⟨T8, hv8, bv8, lv8, hra8⟩ := HID.out.ref
              obtain ⟨gh, oh, caph, hvf, cbx, -, -, -⟩ := hra8.hform (i := k) (by rw [HINV2.out.hl]; exact hkn)
              have hc0 := hra8.c0
              rw [hvf] at hc0
              have l3 : k < s2.hs.length := by rw [HINV2.out.hl]; exact hkn
              have l2 : (k : Int) < (s2.hs.length : Int) := by omega
              obtain ⟨hh, hhe⟩ : ∃ hh, s2.hs.getD k 0 = hh := ⟨_, rfl⟩
              rw [hhe] at cbx hhh0
              have hhh := Lib.hid hhh0
              clear hra8 hvf hhh0 hhe hlo hhi
              generalize s2.hs.length = nh at *
              as_aux_lemma =>
                go_wp2_with fail
                rw [hk] at z1
                go_quiet (fail)
                have HKK := Lib.hid hk
                clear hk
                have HID2 := Lib.hid (HID.out.below (below_drewN (Below.refl _ wc) nq)); have HAD2 := Lib.hid (HAD.out.below (below_drewN (Below.refl _ wc) nq)); have HBD2 := Lib.hid (below_drewN HBD.out nq)
                clear HID HAD HBD z0 z1 hc0 cbx
                have HID := HID2; have HAD := HAD2; have HBD := HBD2
                clear HID2 HAD2 HBD2
                go_wp2_with fail
                generalize wc.drewN nq = wd at *
                have hhh := hhh.out
                have HTI : Hid (∀ W, Below wd.drew.heap.size wd.drew W → TIn w1.heap.size (fun k => k = wr.heap.size) W p q s2 s2) := fun W hW => HID.out.below ⟨hW.os, hW.tape, hW.output, hW.size, hW.block⟩
                obtain ⟨T9, hv9, bv9, lv9, hra⟩ := HID.out.ref
                obtain ⟨Al, cl, rfl, -, -⟩ := hra.lo.len_
                have hlo9 := hra.lo
                have hqlt := hra.lt q hra.sp
                have hc2 := hra.c2
                have hnl := HINV2.out.len
                have hFR : Hid (∀ W, Below wd.drew.heap.size wd.drew W → Calls Try.prog 14 #[.pointer (some ⟨p, 0, none⟩)] W (RetNewI W (s2.ln.map (fun k : Nat => (k : Int))))) := fun W hW => by
                  obtain ⟨S, hR⟩ := (HTI.out W hW).rep
                  exact free_any W hR (by omega)
                have hIN : Hid (∀ W v, Below wd.drew.heap.size wd.drew W → Own W 3 1 v s2.ln.length ((s2.ln.map (fun k : Nat => (k : Int))).map iV) → Calls Try.prog 24 #[v, .slice Al s2.ln.length cl] W fun e w' => e = .returned (.bool true) ∧ ∃ q, w' = W.drewN q) := fun W v hW ho => by
                  obtain ⟨Av, cv, rfl, hr, -⟩ := Own.rdI ho
                  have hW' : Below wd.heap.size wd W := ⟨hW.os, hW.tape, hW.output, hW.size, hW.block⟩
                  have h2 := (hlo9.below hW' fun _ hk => hlo9.lt hk).rd
                  rw [nV_map] at h2
                  refine (ints_any Av Al s2.ln.length s2.ln.length cv cl _ _ W _ _ hr h2 (by omega) (by omega)).mono ?_
                  rintro e w' ⟨rfl, hq⟩
                  exact ⟨by simp, hq⟩
                have hBY : Hid (∀ W, Below wd.drew.heap.size wd.drew W → Calls Try.prog 15 #[.pointer (some ⟨p, 0, none⟩)] W fun e w' => e = .returned (.int .i64 (bytesO s2 : Nat)) ∧ Below W.heap.size W w') := fun W hW => by
                  obtain ⟨S, hR⟩ := (HTI.out W hW).rep
                  exact bytes_any W hR (fun i => by have := HINV2.out.sz i; omega)
                have hRB : Hid (∀ W, Below wd.drew.heap.size wd.drew W → Calls Try.prog 25 #[.pointer (some ⟨q, 0, none⟩)] W fun e w' => e = .returned (.int .i64 (bytesO s2 : Nat)) ∧ W = w') := fun W hW => by
                  obtain ⟨S, hR⟩ := (HTI.out W hW).ref
                  exact rbytes_any W hR (fun i => by have := HINV2.out.sz i; omega)
                have hHO : Hid (∀ W, Below wd.drew.heap.size wd.drew W → Calls Try.prog 17 #[.pointer (some ⟨p, 0, none⟩), .int .i64 x.i] W fun e w' => e = .returned (.int .i64 (hh : Int)) ∧ W = w') := fun W hW => by
                  obtain ⟨S, hR⟩ := (HTI.out W hW).rep
                  have := holds_any x.i W hR
                  rw [hhh] at this
                  exact this
                have HFC : Hid (∀ W, Below wd.drew.heap.size wd.drew W → W.cell? ⟨wr.heap.size, 1, none⟩ = some (.int .i64 x.i) ∧ W.cell? ⟨q, 2, none⟩ = some (.slice Al s2.ln.length cl)) := fun W hW0 => by
                  have hW : Below wd.heap.size wd W := ⟨hW0.os, hW0.tape, hW0.output, hW0.size, hW0.block⟩
                  exact ⟨(hW.cell (p := ⟨wr.heap.size, 1, none⟩) HAD.out.lt).trans HAD.out.c1, (hW.cell (p := ⟨q, 2, none⟩) hqlt).trans hc2⟩
                have HEND : Hid (∀ W, Below wd.drew.heap.size wd.drew W → TIn w1.heap.size NoT W p q s2 s2 ∧ Below w1.heap.size w1 W) := fun W hW0 => by
                  have hW : Below wd.heap.size wd W := ⟨hW0.os, hW0.tape, hW0.output, hW0.size, hW0.block⟩
                  exact ⟨(HTI.out W hW0).frame (U := NoT) (Only.refl _ _) (fun _ h => h.elim) (fun _ h => h.elim), HBD.out.trans (hW.mono HBD.out.size)⟩
                have HZL : Hid ((s2.ln.map (fun k : Nat => (k : Int))).length = s2.ln.length) := List.length_map _
                clear hra hlo9 hqlt hc2 HTI hhh HID HAD HBD
                generalize s2.ln.map (fun k : Nat => (k : Int)) = zs at *
                generalize s2.ln.length = nl at *
                generalize bytesO s2 = bb at *
                refine region_rows (by kernel_rfl) (fun W W' => Below W.heap.size W W')
                  [.val (.bool true),
                   .val (.bool false),
                   .val (.bool false),
                   .val (.pointer (some ⟨p, 0, none⟩)),
                   ⟨fun v W => Own W 3 1 v nl (zs.map iV), fun _ _ _ h hR => h.below hR fun _ hk => h.lt hk⟩,
                   .val (.pointer (some ⟨q, 0, none⟩)),
                   .val (.pointer (some ⟨q, 0, none⟩)),
                   .val (.pointer (some ⟨q, 2, none⟩)),
                   .val (.slice Al nl cl),
                   .val (.bool true),
                   .val (.bool false),
                   .val (.bool false),
                   .val (.bool false),
                   .val (.pointer (some ⟨p, 0, none⟩)),
                   .val (.int .i64 (bb : Int)),
                   .val (.pointer (some ⟨q, 0, none⟩)),
                   .val (.int .i64 (bb : Int)),
                   .val (.bool false),
                   .val (.bool false),
                   .val (.bool false),
                   .val (.pointer (some ⟨p, 0, none⟩)),
                   .val (.pointer (some ⟨wr.heap.size, 1, none⟩)),
                   .val (.int .i64 x.i),
                   .val (.int .i64 (hh : Int)),
                   .val (.int .i64 (hh : Int)),
                   .val (.bool false),
                   .val (.bool false)]
                  (fun W => Below.refl _ W) (fun _ _ _ h k => below_trans h k) (by kernel_rfl) ?_ ?_
                · refine ⟨?_, ?_, ?_, ?_, ?_, ?_, ?_, ?_, ?_, ?_, ?_, ?_, ?_, ?_, ?_, ?_, ?_, ?_, ?_, ?_, ?_, ?_, ?_, ?_, ?_, ?_, ?_, trivial⟩
                  · intro ra RW hR hk hd K hK
                    obtain ⟨y1, y2⟩ := HFC.out RW hR
                    obtain ⟨e10, g10⟩ := hk 10 (.bool true) (by kernel_rfl) rfl
                    clear hk hd
                    have HR := Lib.hid hR
                    clear hR
                    go_simp
                    exact hK _ _ (Below.refl _ _) rfl
                  · intro ra RW hR hk hd K hK
                    obtain ⟨y1, y2⟩ := HFC.out RW hR
                    obtain ⟨v231, e231, g231, f231⟩ := hd 0 231 (by kernel_rfl) rfl
                    have f231 : v231 = .bool true := f231
                    subst f231
                    clear hk hd
                    have HR := Lib.hid hR
                    clear hR
                    go_simp
                    exact hK _ _ (Below.refl _ _) rfl
                  · intro ra RW hR hk hd K hK
                    obtain ⟨y1, y2⟩ := HFC.out RW hR
                    obtain ⟨v232, e232, g232, f232⟩ := hd 1 232 (by kernel_rfl) rfl
                    have f232 : v232 = .bool false := f232
                    subst f232
                    clear hk hd
                    have HR := Lib.hid hR
                    clear hR
                    go_simp
                    exact hK _ _ (Below.refl _ _) rfl
                  · intro ra RW hR hk hd K hK
                    obtain ⟨y1, y2⟩ := HFC.out RW hR
                    obtain ⟨e5, g5⟩ := hk 5 (.pointer (some ⟨p, 0, none⟩)) (by kernel_rfl) rfl
                    obtain ⟨v233, e233, g233, f233⟩ := hd 2 233 (by kernel_rfl) rfl
                    have f233 : v233 = .bool false := f233
                    subst f233
                    clear hk hd
                    have HR := Lib.hid hR
                    clear hR
                    go_simp
                    exact hK _ _ (Below.refl _ _) rfl
                  · intro ra RW hR hk hd K hK
                    obtain ⟨y1, y2⟩ := HFC.out RW hR
                    obtain ⟨v234, e234, g234, f234⟩ := hd 3 234 (by kernel_rfl) rfl
                    have f234 : v234 = .pointer (some ⟨p, 0, none⟩) := f234
                    subst f234
                    obtain ⟨v233, e233, g233, f233⟩ := hd 2 233 (by kernel_rfl) rfl
                    have f233 : v233 = .bool false := f233
                    subst f233
                    clear hk hd
                    have HR := Lib.hid hR
                    clear hR
                    go_simp
                    refine (hFR.out _ HR.out).mono ?_
                    rintro e w2 ⟨v, rfl, ho, hb, hn⟩
                    rw [HZL.out] at ho
                    exact hK _ _ hb ho
                  · intro ra RW hR hk hd K hK
                    obtain ⟨y1, y2⟩ := HFC.out RW hR
                    obtain ⟨e7, g7⟩ := hk 7 (.pointer (some ⟨q, 0, none⟩)) (by kernel_rfl) rfl
                    obtain ⟨v233, e233, g233, f233⟩ := hd 2 233 (by kernel_rfl) rfl
                    have f233 : v233 = .bool false := f233
                    subst f233
                    clear hk hd
                    have HR := Lib.hid hR
                    clear hR
                    go_simp
                    exact hK _ _ (Below.refl _ _) rfl
                  · intro ra RW hR hk hd K hK
                    obtain ⟨y1, y2⟩ := HFC.out RW hR
                    obtain ⟨v236, e236, g236, f236⟩ := hd 5 236 (by kernel_rfl) rfl
                    have f236 : v236 = .pointer (some ⟨q, 0, none⟩) := f236
                    subst f236
                    obtain ⟨v233, e233, g233, f233⟩ := hd 2 233 (by kernel_rfl) rfl
                    have f233 : v233 = .bool false := f233
                    subst f233
                    clear hk hd
                    have HR := Lib.hid hR
                    clear hR
                    go_simp
                    exact hK _ _ (Below.refl _ _) rfl
                  · intro ra RW hR hk hd K hK
                    obtain ⟨y1, y2⟩ := HFC.out RW hR
                    obtain ⟨v237, e237, g237, f237⟩ := hd 6 237 (by kernel_rfl) rfl
                    have f237 : v237 = .pointer (some ⟨q, 0, none⟩) := f237
                    subst f237
                    obtain ⟨v233, e233, g233, f233⟩ := hd 2 233 (by kernel_rfl) rfl
                    have f233 : v233 = .bool false := f233
                    subst f233
                    clear hk hd
                    have HR := Lib.hid hR
                    clear hR
                    go_simp
                    exact hK _ _ (Below.refl _ _) rfl
                  · intro ra RW hR hk hd K hK
                    obtain ⟨y1, y2⟩ := HFC.out RW hR
                    obtain ⟨v238, e238, g238, f238⟩ := hd 7 238 (by kernel_rfl) rfl
                    have f238 : v238 = .pointer (some ⟨q, 2, none⟩) := f238
                    subst f238
                    obtain ⟨v233, e233, g233, f233⟩ := hd 2 233 (by kernel_rfl) rfl
                    have f233 : v233 = .bool false := f233
                    subst f233
                    clear hk hd
                    have HR := Lib.hid hR
                    clear hR
                    go_simp
                    exact hK _ _ (Below.refl _ _) rfl
                  · intro ra RW hR hk hd K hK
                    obtain ⟨y1, y2⟩ := HFC.out RW hR
                    obtain ⟨v235, e235, g235, f235⟩ := hd 4 235 (by kernel_rfl) rfl
                    have F235 := Lib.hid f235
                    clear f235
                    obtain ⟨v239, e239, g239, f239⟩ := hd 8 239 (by kernel_rfl) rfl
                    have f239 : v239 = .slice Al nl cl := f239
                    subst f239
                    obtain ⟨v233, e233, g233, f233⟩ := hd 2 233 (by kernel_rfl) rfl
                    have f233 : v233 = .bool false := f233
                    subst f233
                    clear hk hd
                    have HR := Lib.hid hR
                    clear hR
                    go_simp
                    refine (hIN.out _ _ HR.out F235.out).mono ?_
                    rintro e w2 ⟨rfl, qq, rfl⟩
                    exact hK _ _ (below_drewN (Below.refl _ _) qq) rfl
                  · intro ra RW hR hk hd K hK
                    obtain ⟨y1, y2⟩ := HFC.out RW hR
                    obtain ⟨v240, e240, g240, f240⟩ := hd 9 240 (by kernel_rfl) rfl
                    have f240 : v240 = .bool true := f240
                    subst f240
                    obtain ⟨v233, e233, g233, f233⟩ := hd 2 233 (by kernel_rfl) rfl
                    have f233 : v233 = .bool false := f233
                    subst f233
                    clear hk hd
                    have HR := Lib.hid hR
                    clear hR
                    go_simp
                    exact hK _ _ (Below.refl _ _) rfl
                  · intro ra RW hR hk hd K hK
                    obtain ⟨y1, y2⟩ := HFC.out RW hR
                    obtain ⟨v233, e233, g233, f233⟩ := hd 2 233 (by kernel_rfl) rfl
                    have f233 : v233 = .bool false := f233
                    subst f233
                    obtain ⟨v241, e241, g241, f241⟩ := hd 10 241 (by kernel_rfl) rfl
                    have f241 : v241 = .bool false := f241
                    subst f241
                    clear hk hd
                    have HR := Lib.hid hR
                    clear hR
                    go_simp
                    exact hK _ _ (Below.refl _ _) rfl
                  · intro ra RW hR hk hd K hK
                    obtain ⟨y1, y2⟩ := HFC.out RW hR
                    obtain ⟨v242, e242, g242, f242⟩ := hd 11 242 (by kernel_rfl) rfl
                    have f242 : v242 = .bool false := f242
                    subst f242
                    clear hk hd
                    have HR := Lib.hid hR
                    clear hR
                    go_simp
                    exact hK _ _ (Below.refl _ _) rfl
                  · intro ra RW hR hk hd K hK
                    obtain ⟨y1, y2⟩ := HFC.out RW hR
                    obtain ⟨e5, g5⟩ := hk 5 (.pointer (some ⟨p, 0, none⟩)) (by kernel_rfl) rfl
                    obtain ⟨v243, e243, g243, f243⟩ := hd 12 243 (by kernel_rfl) rfl
                    have f243 : v243 = .bool false := f243
                    subst f243
                    clear hk hd
                    have HR := Lib.hid hR
                    clear hR
                    go_simp
                    exact hK _ _ (Below.refl _ _) rfl
                  · intro ra RW hR hk hd K hK
                    obtain ⟨y1, y2⟩ := HFC.out RW hR
                    obtain ⟨v244, e244, g244, f244⟩ := hd 13 244 (by kernel_rfl) rfl
                    have f244 : v244 = .pointer (some ⟨p, 0, none⟩) := f244
                    subst f244
                    obtain ⟨v243, e243, g243, f243⟩ := hd 12 243 (by kernel_rfl) rfl
                    have f243 : v243 = .bool false := f243
                    subst f243
                    clear hk hd
                    have HR := Lib.hid hR
                    clear hR
                    go_simp
                    refine (hBY.out _ HR.out).mono ?_
                    rintro e w2 ⟨rfl, hb⟩
                    exact hK _ _ hb rfl
                  · intro ra RW hR hk hd K hK
                    obtain ⟨y1, y2⟩ := HFC.out RW hR
                    obtain ⟨e7, g7⟩ := hk 7 (.pointer (some ⟨q, 0, none⟩)) (by kernel_rfl) rfl
                    obtain ⟨v243, e243, g243, f243⟩ := hd 12 243 (by kernel_rfl) rfl
                    have f243 : v243 = .bool false := f243
                    subst f243
                    clear hk hd
                    have HR := Lib.hid hR
                    clear hR
                    go_simp
                    exact hK _ _ (Below.refl _ _) rfl
                  · intro ra RW hR hk hd K hK
                    obtain ⟨y1, y2⟩ := HFC.out RW hR
                    obtain ⟨v246, e246, g246, f246⟩ := hd 15 246 (by kernel_rfl) rfl
                    have f246 : v246 = .pointer (some ⟨q, 0, none⟩) := f246
                    subst f246
                    obtain ⟨v243, e243, g243, f243⟩ := hd 12 243 (by kernel_rfl) rfl
                    have f243 : v243 = .bool false := f243
                    subst f243
                    clear hk hd
                    have HR := Lib.hid hR
                    clear hR
                    go_simp
                    refine (hRB.out _ HR.out).mono ?_
                    rintro e w2 ⟨rfl, rfl⟩
                    exact hK _ _ (Below.refl _ _) rfl
                  · intro ra RW hR hk hd K hK
                    obtain ⟨y1, y2⟩ := HFC.out RW hR
                    obtain ⟨v245, e245, g245, f245⟩ := hd 14 245 (by kernel_rfl) rfl
                    have f245 : v245 = .int .i64 (bb : Int) := f245
                    subst f245
                    obtain ⟨v247, e247, g247, f247⟩ := hd 16 247 (by kernel_rfl) rfl
                    have f247 : v247 = .int .i64 (bb : Int) := f247
                    subst f247
                    obtain ⟨v243, e243, g243, f243⟩ := hd 12 243 (by kernel_rfl) rfl
                    have f243 : v243 = .bool false := f243
                    subst f243
                    clear hk hd
                    have HR := Lib.hid hR
                    clear hR
                    go_simp
                    exact hK _ _ (Below.refl _ _) rfl
                  · intro ra RW hR hk hd K hK
                    obtain ⟨y1, y2⟩ := HFC.out RW hR
                    obtain ⟨v243, e243, g243, f243⟩ := hd 12 243 (by kernel_rfl) rfl
                    have f243 : v243 = .bool false := f243
                    subst f243
                    obtain ⟨v248, e248, g248, f248⟩ := hd 17 248 (by kernel_rfl) rfl
                    have f248 : v248 = .bool false := f248
                    subst f248
                    clear hk hd
                    have HR := Lib.hid hR
                    clear hR
                    go_simp
                    exact hK _ _ (Below.refl _ _) rfl
                  · intro ra RW hR hk hd K hK
                    obtain ⟨y1, y2⟩ := HFC.out RW hR
                    obtain ⟨v249, e249, g249, f249⟩ := hd 18 249 (by kernel_rfl) rfl
                    have f249 : v249 = .bool false := f249
                    subst f249
                    clear hk hd
                    have HR := Lib.hid hR
                    clear hR
                    go_simp
                    exact hK _ _ (Below.refl _ _) rfl
                  · intro ra RW hR hk hd K hK
                    obtain ⟨y1, y2⟩ := HFC.out RW hR
                    obtain ⟨e5, g5⟩ := hk 5 (.pointer (some ⟨p, 0, none⟩)) (by kernel_rfl) rfl
                    obtain ⟨v250, e250, g250, f250⟩ := hd 19 250 (by kernel_rfl) rfl
                    have f250 : v250 = .bool false := f250
                    subst f250
                    clear hk hd
                    have HR := Lib.hid hR
                    clear hR
                    go_simp
                    exact hK _ _ (Below.refl _ _) rfl
                  · intro ra RW hR hk hd K hK
                    obtain ⟨y1, y2⟩ := HFC.out RW hR
                    obtain ⟨e9, g9⟩ := hk 9 (.pointer (some ⟨wr.heap.size, 0, none⟩)) (by kernel_rfl) rfl
                    obtain ⟨v250, e250, g250, f250⟩ := hd 19 250 (by kernel_rfl) rfl
                    have f250 : v250 = .bool false := f250
                    subst f250
                    clear hk hd
                    have HR := Lib.hid hR
                    clear hR
                    go_simp
                    exact hK _ _ (Below.refl _ _) rfl
                  · intro ra RW hR hk hd K hK
                    obtain ⟨y1, y2⟩ := HFC.out RW hR
                    obtain ⟨v252, e252, g252, f252⟩ := hd 21 252 (by kernel_rfl) rfl
                    have f252 : v252 = .pointer (some ⟨wr.heap.size, 1, none⟩) := f252
                    subst f252
                    obtain ⟨v250, e250, g250, f250⟩ := hd 19 250 (by kernel_rfl) rfl
                    have f250 : v250 = .bool false := f250
                    subst f250
                    clear hk hd
                    have HR := Lib.hid hR
                    clear hR
                    go_simp
                    exact hK _ _ (Below.refl _ _) rfl
                  · intro ra RW hR hk hd K hK
                    obtain ⟨y1, y2⟩ := HFC.out RW hR
                    obtain ⟨v251, e251, g251, f251⟩ := hd 20 251 (by kernel_rfl) rfl
                    have f251 : v251 = .pointer (some ⟨p, 0, none⟩) := f251
                    subst f251
                    obtain ⟨v253, e253, g253, f253⟩ := hd 22 253 (by kernel_rfl) rfl
                    have f253 : v253 = .int .i64 x.i := f253
                    subst f253
                    obtain ⟨v250, e250, g250, f250⟩ := hd 19 250 (by kernel_rfl) rfl
                    have f250 : v250 = .bool false := f250
                    subst f250
                    clear hk hd
                    have HR := Lib.hid hR
                    clear hR
                    go_simp
                    refine (hHO.out _ HR.out).mono ?_
                    rintro e w2 ⟨rfl, rfl⟩
                    exact hK _ _ (Below.refl _ _) rfl
                  · intro ra RW hR hk hd K hK
                    obtain ⟨y1, y2⟩ := HFC.out RW hR
                    obtain ⟨e20, g20⟩ := hk 20 (.int .i64 (hh : Int)) (by kernel_rfl) rfl
                    obtain ⟨v250, e250, g250, f250⟩ := hd 19 250 (by kernel_rfl) rfl
                    have f250 : v250 = .bool false := f250
                    subst f250
                    clear hk hd
                    have HR := Lib.hid hR
                    clear hR
                    go_simp
                    exact hK _ _ (Below.refl _ _) rfl
                  · intro ra RW hR hk hd K hK
                    obtain ⟨y1, y2⟩ := HFC.out RW hR
                    obtain ⟨v254, e254, g254, f254⟩ := hd 23 254 (by kernel_rfl) rfl
                    have f254 : v254 = .int .i64 (hh : Int) := f254
                    subst f254
                    obtain ⟨v255, e255, g255, f255⟩ := hd 24 255 (by kernel_rfl) rfl
                    have f255 : v255 = .int .i64 (hh : Int) := f255
                    subst f255
                    obtain ⟨v250, e250, g250, f250⟩ := hd 19 250 (by kernel_rfl) rfl
                    have f250 : v250 = .bool false := f250
                    subst f250
                    clear hk hd
                    have HR := Lib.hid hR
                    clear hR
                    go_simp
                    exact hK _ _ (Below.refl _ _) rfl
                  · intro ra RW hR hk hd K hK
                    obtain ⟨y1, y2⟩ := HFC.out RW hR
                    obtain ⟨v250, e250, g250, f250⟩ := hd 19 250 (by kernel_rfl) rfl
                    have f250 : v250 = .bool false := f250
                    subst f250
                    obtain ⟨v256, e256, g256, f256⟩ := hd 25 256 (by kernel_rfl) rfl
                    have f256 : v256 = .bool false := f256
                    subst f256
                    clear hk hd
                    have HR := Lib.hid hR
                    clear hR
                    go_simp
                    exact hK _ _ (Below.refl _ _) rfl
                intro vs RW hR hF
                have q0 : vs 0 = .bool true := hF 0 (by decide)
                have q1 : vs 1 = .bool false := hF 1 (by decide)
                have q2 : vs 2 = .bool false := hF 2 (by decide)
                have q3 : vs 3 = .pointer (some ⟨p, 0, none⟩) := hF 3 (by decide)
                have F235 := Lib.hid (hF 4 (by decide))
                have q5 : vs 5 = .pointer (some ⟨q, 0, none⟩) := hF 5 (by decide)
                have q6 : vs 6 = .pointer (some ⟨q, 0, none⟩) := hF 6 (by decide)
                have q7 : vs 7 = .pointer (some ⟨q, 2, none⟩) := hF 7 (by decide)
                have q8 : vs 8 = .slice Al nl cl := hF 8 (by decide)
                have q9 : vs 9 = .bool true := hF 9 (by decide)
                have q10 : vs 10 = .bool false := hF 10 (by decide)
                have q11 : vs 11 = .bool false := hF 11 (by decide)
                have q12 : vs 12 = .bool false := hF 12 (by decide)
                have q13 : vs 13 = .pointer (some ⟨p, 0, none⟩) := hF 13 (by decide)
                have q14 : vs 14 = .int .i64 (bb : Int) := hF 14 (by decide)
                have q15 : vs 15 = .pointer (some ⟨q, 0, none⟩) := hF 15 (by decide)
                have q16 : vs 16 = .int .i64 (bb : Int) := hF 16 (by decide)
                have q17 : vs 17 = .bool false := hF 17 (by decide)
                have q18 : vs 18 = .bool false := hF 18 (by decide)
                have q19 : vs 19 = .bool false := hF 19 (by decide)
                have q20 : vs 20 = .pointer (some ⟨p, 0, none⟩) := hF 20 (by decide)
                have q21 : vs 21 = .pointer (some ⟨wr.heap.size, 1, none⟩) := hF 21 (by decide)
                have q22 : vs 22 = .int .i64 x.i := hF 22 (by decide)
                have q23 : vs 23 = .int .i64 (hh : Int) := hF 23 (by decide)
                have q24 : vs 24 = .int .i64 (hh : Int) := hF 24 (by decide)
                have q25 : vs 25 = .bool false := hF 25 (by decide)
                have q26 : vs 26 = .bool false := hF 26 (by decide)
                simp only [setAll, List.setIfInBounds_toArray, List.set_cons_zero, List.set_cons_succ, q0, q1, q2, q3, q5, q6, q7, q8, q9, q10, q11, q12, q13, q14, q15, q16, q17, q18, q19, q20, q21, q22, q23, q24, q25, q26]
                clear hF q0 q1 q2 q3 q5 q6 q7 q8 q9 q10 q11 q12 q13 q14 q15 q16 q17 q18 q19 q20 q21 q22 q23 q24 q25 q26
                generalize vs 4 = v235 at *
                clear vs
                obtain ⟨hi9, hb9⟩ := HEND.out RW hR
                have HI9 := Lib.hid hi9; have HB9 := Lib.hid hb9
                clear hi9 hb9 hR
                go_wp2_with fail
                go_roundw
                case rel => exact ⟨j + 1, s2, by omega, by go_num, HINV2.out, HB9.out, HI9.out⟩
                case measure => simp [intOf]; omega
    · have HBE := Lib.hid hbw
      clear hin hbw hinv
      go_wp2
      go_ret
      exact ⟨rfl, below_trans HB0.out HBE.out⟩
end Go.Proofs.Ytmebpalfjcejoaa
