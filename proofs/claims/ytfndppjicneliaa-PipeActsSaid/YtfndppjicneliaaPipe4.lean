/-
  The contract of the pipe's function Send; no condition beyond those that each theorem states.
-/
import Derived.Test.YtfndppjicneliaaPipe3
import Derived.Deep.RegionLaw
namespace Go.Proofs.Ytfndppjicneliaa
open Go.RowKit Go.Rb
attribute [local irreducible] Go.wpQuiet

theorem infoI : (Try.prog.info? 34).map (fun i => (i.zero, i.size, i.bytes)) = some (some (.agg #[.int .i64 0, .int .i64 0, .int .i64 0, .int .i64 0, .string ⟨#[]⟩, .slice none 0 0, .int .i64 0]), 7, 80) := by kernel_rfl
theorem infoO : (Try.prog.info? 64).map (fun i => (i.zero, i.size, i.bytes)) = some (some (.agg #[.int .i64 0, .int .i64 0, .int .i64 0, .int .i64 0, .int .i64 0, .string ⟨#[]⟩, .slice none 0 0, .int .i64 0]), 8, 88) := by kernel_rfl

section
variable {w w' : World} {S S' T : Nat → Prop} {p : Nat} {iv ov : Value} {s : PS}
theorem RepA.pushIn (h : RepA w S p iv ov s) {o : Obj} {w4 : World} {g off c n : Nat} (x : It) (hn : n = s.inn.length) (hO : Own w4 34 7 (.slice (some ⟨g, off, none⟩) (n + 1) c) (n + 1) (ics s.inn ++ x.cs)) (hG : (w.alloc o).grownBy w4 iv.ownBlock)
    (hat : iv.ownBlock = some g ∨ g = (w.alloc o).heap.size) :
    w4.cell? ⟨p, 1, none⟩ = some iv ∧ w4.frozen? ⟨p, 1, none⟩ = false ∧ Hid (Went w S p { s with inn := s.inn ++ [x] } (w4.setCell ⟨p, 1, none⟩ (.slice (some ⟨g, off, none⟩) (n + 1) c))) := by
  subst hn
  have h1 := h.below ((Below.refl _ _).alloc (Nat.le_refl _) o)
  have hpb := h1.pb.grown hG (fun e => own_ne_blk h1.io h1.pb (by decide) e.symm)
  have O4 : Only S w w4 := ((Only.refl S w).alloc o).grown hG (fun k hk _ => h.si k hk)
  refine ⟨by rw [hpb.cell]; rfl, hpb.frozen 1, ?_⟩
  have e1 : (s.inn ++ [x]).length = s.inn.length + 1 := by simp
  have e2 : ics (s.inn ++ [x]) = ics s.inn ++ x.cs := by rw [ics_append]; simp [ics]
  exact Went.of_new (O4.setCell (p := ⟨p, 1, none⟩) (fun _ => h.sp) _) (h1.growIn (S' := fun q => S q ∨ (w.heap.size ≤ q ∧ q < (w4.setCell ⟨p, 1, none⟩ (.slice (some ⟨g, off, none⟩) (s.inn.length + 1) c)).heap.size)) hG _ (s.inn ++ [x]) (by rw [e1, e2]; exact hO)
    (fun k hk => by
      have e : g = k := by simpa [Value.ownBlock] using hk
      subst e
      rcases hat with hat | hat
      · exact .inl (h.si _ hat)
      · right; have := hO.lt (k := g) rfl; simp [World.setCell] at *; omega)
    (fun _ hq => .inl hq)
    (fun q hq => by
      rcases hq with hq | hq
      · have := h1.lt q hq; have := hG.size; omega
      · simpa [World.setCell] using hq.2))
theorem RepA.pushOf (h : RepA w S p iv ov s) {o : Obj} {w4 : World} {g off c n : Nat} (x : Of) (hn : n = s.ofs.length) (hO : Own w4 64 8 (.slice (some ⟨g, off, none⟩) (n + 1) c) (n + 1) (ocs s.ofs ++ ofc x)) (hG : (w.alloc o).grownBy w4 ov.ownBlock)
    (hat : ov.ownBlock = some g ∨ g = (w.alloc o).heap.size) :
    w4.cell? ⟨p, 2, none⟩ = some ov ∧ w4.frozen? ⟨p, 2, none⟩ = false ∧ Hid (Went w S p { s with ofs := s.ofs ++ [x] } (w4.setCell ⟨p, 2, none⟩ (.slice (some ⟨g, off, none⟩) (n + 1) c))) := by
  subst hn
  have h1 := h.below ((Below.refl _ _).alloc (Nat.le_refl _) o)
  have hpb := h1.pb.grown hG (fun e => own_ne_blk h1.oo h1.pb (by decide) e.symm)
  have O4 : Only S w w4 := ((Only.refl S w).alloc o).grown hG (fun k hk _ => h.so k hk)
  refine ⟨by rw [hpb.cell]; rfl, hpb.frozen 2, ?_⟩
  have e1 : (s.ofs ++ [x]).length = s.ofs.length + 1 := by simp
  have e2 : ocs (s.ofs ++ [x]) = ocs s.ofs ++ ofc x := by rw [ocs_append]; simp [ocs]
  exact Went.of_new (O4.setCell (p := ⟨p, 2, none⟩) (fun _ => h.sp) _) (h1.growOf (S' := fun q => S q ∨ (w.heap.size ≤ q ∧ q < (w4.setCell ⟨p, 2, none⟩ (.slice (some ⟨g, off, none⟩) (s.ofs.length + 1) c)).heap.size)) hG _ (s.ofs ++ [x]) (by rw [e1, e2]; exact hO)
    (fun k hk => by
      have e : g = k := by simpa [Value.ownBlock] using hk
      subst e
      rcases hat with hat | hat
      · exact .inl (h.so _ hat)
      · right; have := hO.lt (k := g) rfl; simp [World.setCell] at *; omega)
    (fun _ hq => .inl hq)
    (fun q hq => by
      rcases hq with hq | hq
      · have := h1.lt q hq; have := hG.size; omega
      · simpa [World.setCell] using hq.2))
end
/-- What was done from a world with new blocks alone, to one behind the pipe's writes. -/
theorem Went.from {w w1 w2 : World} {S : Nat → Prop} {p : Nat} {s' : PS} (h : Went w1 S p s' w2) (hO : Only S w w1) : Went w S p s' w2 := by
  refine ⟨hO.trans h.1 fun _ _ h => h, ?_⟩
  obtain ⟨iv, ov, h2⟩ := h.2
  have hs := hO.size
  exact ⟨iv, ov, h2.mono (fun k hk => by rcases hk with hk | hk; exact .inl hk; exact .inr ⟨by omega, hk.2⟩) (fun k hk => by rcases hk with hk | hk; exact h2.lt k (.inl hk); exact hk.2)⟩

def sendV (s : PS) (who : Int) : Bool := !s.cl && !waitsO s who && decide (s.inn.length < s.room)
def sendE (s : PS) (who : Int) : Int := if s.cl then 17 else if waitsO s who then 18 else 0
def sendS (s : PS) (who : Int) (x : It) : PS := if s.cl then s else if waitsO s who then s else if s.inn.length < s.room then { s with sent := s.sent + 1, inn := s.inn ++ [x] } else { s with sent := s.sent + 1, ofs := s.ofs ++ [(who, x)] }

set_option maxHeartbeats 4000000 in
theorem send_any {S : Nat → Prop} {p : Nat} {s : PS} (who : Int) (x : It) (w : World) (hR : Rep w S p s) (h1 : s.inn.length ≤ 1000000) (h2 : s.ofs.length ≤ 1000000) (h3 : -1000000 ≤ s.sent ∧ s.sent ≤ 1000000) :
    Calls Try.prog 9 #[pp p, .int .i64 who, x.v] w fun e w' => e = .returned (.tuple #[.bool (sendV s who), .int .i64 (sendE s who)]) ∧ Went w S p (sendS s who x) w' := by
  obtain ⟨iv, ov, h⟩ := hR
  obtain ⟨i0, hi0, hz0, hz1, hz2⟩ := info_parts infoI
  obtain ⟨j0, hj0, hjz0, hjz1, hjz2⟩ := info_parts infoO
  have hbl : ∀ o, Below w.heap.size w (w.alloc o) := fun o => below_al (Below.refl _ _) _
  obtain ⟨xn, xb, xrn, xra, xrt, xha, xhn, xhc, xe⟩ := x
  have hA := h.below (hbl (.cells #[.int .i64 xn, .int .i64 xb, .int .i64 xrn, .int .i64 xra, .string xrt, .slice xha xhn xhc, .int .i64 xe] 34))
  have hpl := h.lt _ h.sp
  have c3 := hA.c3
  have HW := Lib.hid (waits_any who _ ⟨iv, ov, hA⟩ h2)
  have HA := Lib.hid hA
  have HB := Lib.hid (hbl (.cells #[.int .i64 xn, .int .i64 xb, .int .i64 xrn, .int .i64 xra, .string xrt, .slice xha xhn xhc, .int .i64 xe] 34))
  have HH := Lib.hid h
  clear h hA hbl
  unfold sendV sendE sendS
  unfold It.v
  cases hc : s.cl with
  | true =>
    rw [hc] at c3
    clear HW
    unfold pp
    go_enter Try.func9, Try.ntmps9
    go_wp2
    go_ret2
    exact ⟨rfl, (Went.of (Only.refl _ _) HA.out).from (Only.of_below HB.out |>.mono (fun k hk hh => by omega))⟩
  | false =>
    rw [hc] at c3
    cases hw : waitsO s who with
    | true =>
      rw [hw] at HW
      unfold pp at HW ⊢
      go_enter Try.func9, Try.ntmps9
      go_wp2_with (go_at_call 14; refine HW.out.mono ?_; rintro e1 w1 ⟨rfl, hb1⟩; have HB1 := Lib.hid hb1; clear hb1)
      go_ret2
      exact ⟨rfl, (Went.of (Only.refl _ _) (HA.out.below HB1.out)).from (Only.of_below (below_trans HB.out HB1.out) |>.mono (fun k hk hh => by omega))⟩
    | false =>
      rw [hw] at HW
      by_cases hrm : s.inn.length < s.room
      · rw [decide_eq_true hrm]
        simp only [if_pos hrm]
        unfold pp at HW ⊢
        go_enter Try.func9, Try.ntmps9
        go_wp2_with (go_at_call 14; refine HW.out.mono ?_; rintro e1 w1 ⟨rfl, hb1⟩; have HB1 := Lib.hid hb1; have c4 := (HA.out.below hb1).c4; have f4 := (HA.out.below hb1).fp 4; have HR2 := Lib.hid ((HA.out.below hb1).setSent (s.sent + 1)); clear hb1)
        have D0 : ∀ j v, #[Value.int .i64 xn, .int .i64 xb, .int .i64 xrn, .int .i64 xra, .string xrt, .slice xha xhn xhc, .int .i64 xe][j]? = some v → (w1.setCell ⟨p, 4, none⟩ (.int .i64 (s.sent + 1))).cell? ⟨w.heap.size, j, none⟩ = some v := fun j v hv => by
          rw [setCell_other (by simp; try omega), HB1.out.cell (p := ⟨w.heap.size, j, none⟩) (by simp)]
          simp [hv]
        have D1 := D0
        clear D0
        have D0 : ∀ j v, [Value.int .i64 xn, .int .i64 xb, .int .i64 xrn, .int .i64 xra, .string xrt, .slice xha xhn xhc, .int .i64 xe][j]? = some v → (w1.setCell ⟨p, 4, none⟩ (.int .i64 (s.sent + 1))).cell? ⟨w.heap.size, j, none⟩ = some v := fun j v hv => D1 j v (by simpa using hv)
        clear D1
        have d0 := D0 0 _ rfl; have d1 := D0 1 _ rfl; have d2 := D0 2 _ rfl; have d3 := D0 3 _ rfl; have d4 := D0 4 _ rfl; have d5 := D0 5 _ rfl; have d6 := D0 6 _ rfl
        have HO2 : Hid (Only S w (w1.setCell ⟨p, 4, none⟩ (.int .i64 (s.sent + 1)))) := ((Only.of_below (below_trans HB.out HB1.out) |>.mono (fun k hk hh => by omega)).setCell (p := ⟨p, 4, none⟩) (fun _ => HH.out.sp) _)
        clear D0
        have HSZ : Hid (w1.heap.size ≤ (w1.setCell ⟨p, 4, none⟩ (.int .i64 (s.sent + 1))).heap.size) := (by simp [World.setCell] : w1.heap.size ≤ (w1.setCell ⟨p, 4, none⟩ (.int .i64 (s.sent + 1))).heap.size)
        generalize w1.setCell ⟨p, 4, none⟩ (.int .i64 (s.sent + 1)) = w2 at *
        have c0 := HR2.out.c0
        have c1 := HR2.out.c1
        have c2 := HR2.out.c2
        obtain ⟨A1, cp1, rfl, -, -⟩ := HR2.out.io.len_
        obtain ⟨A2, cp2, rfl, -, -⟩ := HR2.out.oo.len_
        simp only at c0 c1 c2
        have i1 : (s.inn.length : Int) < (s.room : Int) := by omega
        go_quiet (fail)
        have HR3 : Hid (RepA (w2.drewN nq) S p (.slice A1 s.inn.length cp1) (.slice A2 s.ofs.length cp2) { s with sent := s.sent + 1 }) := HR2.out.below (below_drewN (Below.refl _ _) nq)
        have HO3 : Hid (Only S w (w2.drewN nq)) := HO2.out.trans (Only.of_below (below_drewN (B := w2.heap.size) (Below.refl _ _) nq)) fun k hk hh => by have := HO2.out.size; omega
        have e0 : (w2.drewN nq).cell? ⟨w.heap.size, 0, none⟩ = _ := d0
        have e1 : (w2.drewN nq).cell? ⟨w.heap.size, 1, none⟩ = _ := d1
        have e2 : (w2.drewN nq).cell? ⟨w.heap.size, 2, none⟩ = _ := d2
        have e3 : (w2.drewN nq).cell? ⟨w.heap.size, 3, none⟩ = _ := d3
        have e4 : (w2.drewN nq).cell? ⟨w.heap.size, 4, none⟩ = _ := d4
        have e5 : (w2.drewN nq).cell? ⟨w.heap.size, 5, none⟩ = _ := d5
        have e6 : (w2.drewN nq).cell? ⟨w.heap.size, 6, none⟩ = _ := d6
        have hs3 : w.heap.size < (w2.drewN nq).heap.size := Nat.lt_of_lt_of_le (by simp) (Nat.le_trans HB1.out.size HSZ.out)
        clear d0 d1 d2 d3 d4 d5 d6 c0 c1 c2 HR2 HO2
        generalize w2.drewN nq = w3 at *
        have c1 := HR3.out.c1
        have f1 := HR3.out.fp 1
        have hpl3 := HR3.out.lt _ HR3.out.sp
        have HIO := Lib.hid HR3.out.io
        have HRQ : Hid (RepA w3.drew S p (.slice A1 s.inn.length cp1) (.slice A2 s.ofs.length cp2) { s with sent := s.sent + 1 }) := HR3.out.below (below_drewN (Below.refl _ _) 1)
        have HOQ : Hid (Only S w w3.drew) := HO3.out.trans (Only.of_below (below_drewN (B := w3.heap.size) (Below.refl _ _) 1)) fun k hk hh => by have := HO3.out.size; omega
        simp only at c1 HIO
        have HN : Hid (∃ n, s.inn.length = n) := ⟨_, rfl⟩
        obtain ⟨n, hN⟩ := HN.out
        rw [hN] at HIO HRQ c1 h1 i1
        have HNN := Lib.hid hN.symm
        clear hN HN
        go_wp2_with fail
        go_region_law (refine step_append_mine _ rfl (.tmp 38) (.tmp 40) _ rfl 34 i0 _ 7 80 Try.underlying37 hi0 hz0 hz1 hz2 rfl (by omega) (.slice A1 n cp1) n (ics s.inn) rfl (by exact HIO.out.alloc _) _ 1 1 [.int .i64 xn, .int .i64 xb, .int .i64 xrn, .int .i64 xra, .string xrt, .slice xha xhn xhc, .int .i64 xe] rfl rfl (by exact news_pushs rfl rfl) (by simp [Value.oneCell']) (by omega) (by simp only [maxLen]; omega) (by omega) _ rfl ?_; intro g2 o2 cc2 w4 hown2 hgrow2 hat2; obtain ⟨cc, ff, HK⟩ := HRQ.out.pushIn ⟨xn, xb, xrn, xra, xrt, xha, xhn, xhc, xe⟩ HNN.out hown2 hgrow2 hat2; clear hown2 hgrow2 hat2)
        all_goals (go_wp2_with fail; go_ret2; have hh := HK.out.from HOQ.out; simp only [hc] at hh; exact ⟨rfl, hh⟩)
      · rw [decide_eq_false hrm]
        simp only [if_neg hrm]
        unfold pp at HW ⊢
        go_enter Try.func9, Try.ntmps9
        go_wp2_with (go_at_call 14; refine HW.out.mono ?_; rintro e1 w1 ⟨rfl, hb1⟩; have HB1 := Lib.hid hb1; have c4 := (HA.out.below hb1).c4; have f4 := (HA.out.below hb1).fp 4; have HR2 := Lib.hid ((HA.out.below hb1).setSent (s.sent + 1)); clear hb1)
        have D0 : ∀ j v, #[Value.int .i64 xn, .int .i64 xb, .int .i64 xrn, .int .i64 xra, .string xrt, .slice xha xhn xhc, .int .i64 xe][j]? = some v → (w1.setCell ⟨p, 4, none⟩ (.int .i64 (s.sent + 1))).cell? ⟨w.heap.size, j, none⟩ = some v := fun j v hv => by
          rw [setCell_other (by simp; try omega), HB1.out.cell (p := ⟨w.heap.size, j, none⟩) (by simp)]
          simp [hv]
        have D1 := D0
        clear D0
        have D0 : ∀ j v, [Value.int .i64 xn, .int .i64 xb, .int .i64 xrn, .int .i64 xra, .string xrt, .slice xha xhn xhc, .int .i64 xe][j]? = some v → (w1.setCell ⟨p, 4, none⟩ (.int .i64 (s.sent + 1))).cell? ⟨w.heap.size, j, none⟩ = some v := fun j v hv => D1 j v (by simpa using hv)
        clear D1
        have d0 := D0 0 _ rfl; have d1 := D0 1 _ rfl; have d2 := D0 2 _ rfl; have d3 := D0 3 _ rfl; have d4 := D0 4 _ rfl; have d5 := D0 5 _ rfl; have d6 := D0 6 _ rfl
        have HO2 : Hid (Only S w (w1.setCell ⟨p, 4, none⟩ (.int .i64 (s.sent + 1)))) := ((Only.of_below (below_trans HB.out HB1.out) |>.mono (fun k hk hh => by omega)).setCell (p := ⟨p, 4, none⟩) (fun _ => HH.out.sp) _)
        clear D0
        have HSZ : Hid (w1.heap.size ≤ (w1.setCell ⟨p, 4, none⟩ (.int .i64 (s.sent + 1))).heap.size) := (by simp [World.setCell] : w1.heap.size ≤ (w1.setCell ⟨p, 4, none⟩ (.int .i64 (s.sent + 1))).heap.size)
        generalize w1.setCell ⟨p, 4, none⟩ (.int .i64 (s.sent + 1)) = w2 at *
        have c0 := HR2.out.c0
        have c1 := HR2.out.c1
        have c2 := HR2.out.c2
        obtain ⟨A1, cp1, rfl, -, -⟩ := HR2.out.io.len_
        obtain ⟨A2, cp2, rfl, -, -⟩ := HR2.out.oo.len_
        simp only at c0 c1 c2
        have i1 : ¬ (s.inn.length : Int) < (s.room : Int) := by omega
        go_quiet (fail)
        have HR3 : Hid (RepA (w2.drewN nq) S p (.slice A1 s.inn.length cp1) (.slice A2 s.ofs.length cp2) { s with sent := s.sent + 1 }) := HR2.out.below (below_drewN (Below.refl _ _) nq)
        have HO3 : Hid (Only S w (w2.drewN nq)) := HO2.out.trans (Only.of_below (below_drewN (B := w2.heap.size) (Below.refl _ _) nq)) fun k hk hh => by have := HO2.out.size; omega
        have e0 : (w2.drewN nq).cell? ⟨w.heap.size, 0, none⟩ = _ := d0
        have e1 : (w2.drewN nq).cell? ⟨w.heap.size, 1, none⟩ = _ := d1
        have e2 : (w2.drewN nq).cell? ⟨w.heap.size, 2, none⟩ = _ := d2
        have e3 : (w2.drewN nq).cell? ⟨w.heap.size, 3, none⟩ = _ := d3
        have e4 : (w2.drewN nq).cell? ⟨w.heap.size, 4, none⟩ = _ := d4
        have e5 : (w2.drewN nq).cell? ⟨w.heap.size, 5, none⟩ = _ := d5
        have e6 : (w2.drewN nq).cell? ⟨w.heap.size, 6, none⟩ = _ := d6
        have hs3 : w.heap.size < (w2.drewN nq).heap.size := Nat.lt_of_lt_of_le (by simp) (Nat.le_trans HB1.out.size HSZ.out)
        clear d0 d1 d2 d3 d4 d5 d6 c0 c1 c2 HR2 HO2
        generalize w2.drewN nq = w3 at *
        have c2 := HR3.out.c2
        have f1 := HR3.out.fp 2
        have hpl3 := HR3.out.lt _ HR3.out.sp
        have HIO := Lib.hid HR3.out.oo
        have HRQ : Hid (RepA w3.drew S p (.slice A1 s.inn.length cp1) (.slice A2 s.ofs.length cp2) { s with sent := s.sent + 1 }) := HR3.out.below (below_drewN (Below.refl _ _) 1)
        have HOQ : Hid (Only S w w3.drew) := HO3.out.trans (Only.of_below (below_drewN (B := w3.heap.size) (Below.refl _ _) 1)) fun k hk hh => by have := HO3.out.size; omega
        simp only at c2 HIO
        have HN : Hid (∃ n, s.ofs.length = n) := ⟨_, rfl⟩
        obtain ⟨n, hN⟩ := HN.out
        rw [hN] at HIO HRQ c2 h2
        have HNN := Lib.hid hN.symm
        clear hN HN
        go_wp2_with fail
        go_region_law (refine step_append_mine _ rfl (.tmp 48) (.tmp 52) _ rfl 64 j0 _ 8 88 Try.underlying60 hj0 hjz0 hjz1 hjz2 rfl (by omega) (.slice A2 n cp2) n (ocs s.ofs) rfl (by exact HIO.out.alloc _) _ 1 1 [.int .i64 who, .int .i64 xn, .int .i64 xb, .int .i64 xrn, .int .i64 xra, .string xrt, .slice xha xhn xhc, .int .i64 xe] rfl rfl (by exact news_pushs rfl rfl) (by simp [Value.oneCell']) (by omega) (by simp only [maxLen]; omega) (by omega) _ rfl ?_; intro g2 o2 cc2 w4 hown2 hgrow2 hat2; obtain ⟨cc, ff, HK⟩ := HRQ.out.pushOf (who, ⟨xn, xb, xrn, xra, xrt, xha, xhn, xhc, xe⟩) HNN.out hown2 hgrow2 hat2; clear hown2 hgrow2 hat2)
        all_goals (go_wp2_with fail; go_ret2; have hh := HK.out.from HOQ.out; simp only [hc] at hh; exact ⟨rfl, hh⟩)
end Go.Proofs.Ytfndppjicneliaa
