/-
  The document's pipe: the contracts of its functions Take and Send; no condition beyond those that each theorem states.
-/
import Derived.Test.YtfndppjicneliaaRef14a
import Derived.Handy
namespace Go.Proofs.Ytfndppjicneliaa
open Go.RowKit Go.Rb
attribute [local irreducible] Go.wpQuiet

theorem infoT : (Try.prog.info? 58).map (fun i => (i.zero, i.size, i.bytes)) = some (some (.agg #[.int .i64 0, .int .i64 0, .int .i64 0, .int .i64 0, .int .i64 0, .string ⟨#[]⟩, .slice none 0 0, .int .i64 0]), 8, 88) := by kernel_rfl
theorem ocs_one (l : List Of) : ∀ u ∈ ocs l, u.oneCell' = true := fun u hu => by
  obtain ⟨o, ho, hu⟩ := List.mem_flatMap.1 hu
  simp [ofc, It.cs] at hu
  rcases hu with rfl | rfl | rfl | rfl | rfl | rfl | rfl | rfl <;> rfl
set_option maxHeartbeats 4000000 in
theorem rtake_cons {R : Nat → Prop} {q r : Nat} {c : Bool} {n : Int} (y : Of) (t : List Of) (w : World) (hR : RR w R q r (y :: t) c n) :
    Calls Try.prog 19 #[pp q] w fun e w' => e = .returned (.tuple #[y.2.v, .int .i64 0]) ∧ RWent w R q r t c n w' := by
  obtain ⟨lv, h⟩ := hR
  obtain ⟨g, off, cap, rfl, hcap, hg, kk⟩ := h.at_ (i := 0) (by simp)
  have c0 := h.c0
  have f0 := h.fp 0
  have hql := h.lt _ h.rq
  have hsg := h.rl g rfl
  have key : Hid (∀ v', Own w 58 8 v' t.length (ocs t) → (∀ k, v'.ownBlock = some k → R k) → ∀ b1 b2, RWent w R q r t c n (((w.setCell ⟨q, 0, none⟩ v').alloc b1).alloc b2)) := by
    intro v' hv hs b1 b2
    have h1 := h.setL v' t hv hs
    have h2 := h1.below ((Below.refl _ _).alloc (Nat.le_refl _) b1)
    have h3 := h2.below ((Below.refl _ _).alloc (Nat.le_refl _) b2)
    exact RWent.of ((((Only.refl R w).setCell (p := ⟨q, 0, none⟩) (fun _ => h.rq) _).alloc _).alloc _) h3
  have htl := h.lo.tail_ 1 (by simp)
  have e1 : (ocs (y :: t)).drop (1 * 8) = ocs t := rfl
  rw [e1, List.length_cons, Nat.add_sub_cancel, Nat.one_mul] at htl
  have HT := Lib.hid htl
  have HSG := Lib.hid hsg
  rw [List.length_cons] at c0 hcap
  have k1 := kk 1 (by omega); have k2 := kk 2 (by omega); have k3 := kk 3 (by omega); have k4 := kk 4 (by omega); have k5 := kk 5 (by omega); have k6 := kk 6 (by omega); have k7 := kk 7 (by omega)
  simp only [List.getElem_cons_zero, Nat.zero_mul, Nat.add_zero] at k1 k2 k3 k4 k5 k6 k7
  clear h kk htl hsg e1
  obtain ⟨who, yn, yb, yrn, yra, yrt, yha, yhn, yhc, ye⟩ := y
  simp only [ofc, It.cs, List.getElem?_cons_zero, List.getElem?_cons_succ] at k1 k2 k3 k4 k5 k6 k7
  have hn0 : (0 : Int) < (t.length : Int) + 1 := by omega
  unfold It.v
  unfold pp
  go_enter Try.func19, Try.ntmps19
  go_wp2_with fail
  · go_returns
    refine ⟨rfl, key.out _ ?_ ?_ _ _⟩
    · have := HT.out; rw [if_pos h, h] at this; exact this
    · intro k hk; simp [Value.ownBlock] at hk; rw [← hk]; exact HSG.out
  · go_returns
    refine ⟨rfl, key.out _ ?_ ?_ _ _⟩
    · have := HT.out; rw [if_neg h] at this; exact this
    · intro k hk; simp [Value.ownBlock] at hk; rw [← hk]; exact HSG.out
set_option maxHeartbeats 2000000 in
theorem rtake_nil {R : Nat → Prop} {q r : Nat} {c : Bool} {n : Int} (w : World) (hR : RR w R q r [] c n) :
    Calls Try.prog 19 #[pp q] w fun e w' => e = .returned (.tuple #[It0.v, .int .i64 (if c then 17 else 19)]) ∧ RWent w R q r [] c n w' := by
  obtain ⟨lv, h⟩ := hR
  have c0 := h.c0
  have c2 := h.c2
  have hql := h.lt _ h.rq
  obtain ⟨Al, cl, rfl, -, -⟩ := h.lo.len_
  have key : Hid (∀ b1, RWent w R q r [] c n (w.alloc b1)) := fun b1 => RWent.of ((Only.refl R w).alloc _) (h.below ((Below.refl _ _).alloc (Nat.le_refl _) b1))
  simp only [List.length_nil] at c0
  clear h
  unfold It.v It0
  unfold pp
  cases c with
  | true =>
    go_enter Try.func19, Try.ntmps19
    go_wp2_with fail
    go_returns
    exact ⟨rfl, key.out _⟩
  | false =>
    go_enter Try.func19, Try.ntmps19
    go_wp2_with fail
    go_returns
    exact ⟨rfl, key.out _⟩
theorem rtake_any {R : Nat → Prop} {q r : Nat} {L : List Of} {c : Bool} {n : Int} (w : World) (hR : RR w R q r L c n) :
    Calls Try.prog 19 #[pp q] w fun e w' => e = .returned (.tuple #[(takeX (GS r L c n)).v, .int .i64 (takeE (GS r L c n))]) ∧ RWent w R q r L.tail c n w' := by
  cases L with
  | nil =>
    obtain ⟨e1, e2, -⟩ := gs_none r c n
    rw [e1, e2]
    exact rtake_nil w hR
  | cons y t =>
    obtain ⟨e1, e2, -⟩ := gs_take r y t c n
    rw [e1, e2]
    exact rtake_cons y t w hR

theorem RRA.newL {w w2 : World} {R : Nat → Prop} {q r : Nat} {lv : Value} {L L' : List Of} {c : Bool} {n n' : Int} {v : Value} (h : RRA w R q lv r L c n) (hO : Only (fun k => w.heap.size ≤ k) w w2) (ho : Own w2 58 8 v L'.length (ocs L')) (hv : ∀ k, v.ownBlock = some k → w.heap.size ≤ k) :
    w2.cell? ⟨q, 0, none⟩ = some lv ∧ w2.frozen? ⟨q, 0, none⟩ = false ∧ w2.cell? ⟨q, 3, none⟩ = some (.int .i64 n) ∧ w2.frozen? ⟨q, 3, none⟩ = false ∧ w2.cell? ⟨q, 1, none⟩ = some (.int .i64 (r : Int)) ∧ Hid (∀ m, RWent w R q r L' c n' (((w2.setCell ⟨q, 0, none⟩ v).setCell ⟨q, 3, none⟩ (.int .i64 n')).drewN m)) := by
  have h2 := h.frame hO (fun k hk hh => by have := h.lt k hk; omega)
  refine ⟨h2.c0, h2.fp 0, h2.c3, h2.fp 3, h2.c1, fun m => ?_⟩
  have h3 : RRA w2 (fun k => R k ∨ (w.heap.size ≤ k ∧ k < w2.heap.size)) q lv r L c n := h2.mono (fun _ hk => .inl hk) fun k hk => by rcases hk with hk | hk; exact h2.lt k hk; exact hk.2
  have h4 := (h3.setL v L' ho (fun k hk => .inr ⟨hv k hk, ho.lt hk⟩)).setN n'
  have h5 := h4.below (below_drewN (Below.refl _ _) m)
  have hO2 : Only R w (((w2.setCell ⟨q, 0, none⟩ v).setCell ⟨q, 3, none⟩ (.int .i64 n')).drewN m) := by
    have o1 : Only R w w2 := hO.mono fun k hk hh => by omega
    have o2 := (o1.setCell (p := ⟨q, 0, none⟩) (fun _ => h.rq) v).setCell (p := ⟨q, 3, none⟩) (fun _ => h.rq) (.int .i64 n')
    exact o2.trans (Only.of_below (below_drewN (B := ((w2.setCell ⟨q, 0, none⟩ v).setCell ⟨q, 3, none⟩ (.int .i64 n')).heap.size) (Below.refl _ _) m)) fun k hk hh => by have := o2.size; omega
  refine RWent.of_new (lv := v) hO2 ?_
  have es : (((w2.setCell ⟨q, 0, none⟩ v).setCell ⟨q, 3, none⟩ (.int .i64 n')).drewN m).heap.size = w2.heap.size := by simp [World.setCell, World.drewN]
  rw [es]
  exact h5
set_option maxHeartbeats 8000000 in
theorem rsend_any {R : Nat → Prop} {q r : Nat} {L : List Of} {n : Int} (who : Int) (x : It) (w : World) (hR : RR w R q r L false n) (hn : L.length ≤ 1000000) (hr : r ≤ 1000) (h3 : -1000000 ≤ n ∧ n ≤ 1000000) (hw : waitsO (GS r L false n) who = false) :
    Calls Try.prog 18 #[pp q, .int .i64 who, x.v] w fun e w' => e = .returned (.tuple #[.bool (decide (L.length < r)), .int .i64 0]) ∧ RWent w R q r (L ++ [(who, x)]) false (n + 1) w' := by
  obtain ⟨k0, hk0, hkz0, hkz1, hkz2⟩ := info_parts infoT
  obtain ⟨lv, h⟩ := hR
  obtain ⟨xn, xb, xrn, xra, xrt, xha, xhn, xhc, xe⟩ := x
  have hbl : ∀ o, Below w.heap.size w (w.alloc o) := fun o => below_al (Below.refl _ _) _
  have hA := h.below (hbl (.cells #[.int .i64 xn, .int .i64 xb, .int .i64 xrn, .int .i64 xra, .string xrt, .slice xha xhn xhc, .int .i64 xe] 34))
  have c0 := hA.c0
  have c2 := hA.c2
  have HW := Lib.hid (rwaits_any who _ ⟨lv, hA⟩ hn hr)
  rw [hw] at HW
  have hql := h.lt _ h.rq
  obtain ⟨Al, cl, rfl, -, -⟩ := h.lo.len_
  have HRD := Lib.hid hA.lo.rd
  have HH := Lib.hid h
  have HA := Lib.hid hA
  have h63 : 0 + L.length ≤ maxLen := by simp only [maxLen]; omega
  have H63 := Lib.hid h63
  have HBK := Lib.hid (Blk.new w 34 #[.int .i64 xn, .int .i64 xb, .int .i64 xrn, .int .i64 xra, .string xrt, .slice xha xhn xhc, .int .i64 xe])
  have HOA : Hid (Only (fun k => w.heap.size ≤ k) w (w.alloc (.cells #[.int .i64 xn, .int .i64 xb, .int .i64 xrn, .int .i64 xra, .string xrt, .slice xha xhn xhc, .int .i64 xe] 34))) := Only.of_below (hbl _)
  have hle : decide ((L.length : Int) + 1 ≤ (r : Int)) = decide (L.length < r) := decide_eq_decide.2 (by omega)
  rw [← hle]
  clear h hA hbl h63 hle
  unfold It.v
  unfold pp at HW ⊢
  go_enter Try.func18, Try.ntmps18
  go_wp2_with (first
    | (go_at_call 23; refine HW.out.mono ?_; rintro e1 w1 ⟨rfl, rfl⟩)
    | (at_builtin; refine wpList_append_rd _ rfl (.tmp 16) (.tmp 20) _ rfl 58 k0 _ 8 88 Try.underlying47 hk0 hkz0 hkz1 hkz2 rfl (by omega) (.slice none 0 0) 0 [] rfl (by exact Own.nil_ _ _ _) _ Al L.length cl (ocs L) rfl (by exact HRD.out) (ocs_one L) H63.out (by omega) _ rfl ?_; intro v1 w1 hown1 hgrow1 hat1; have ho1 := hown1; rw [Nat.zero_add, List.nil_append] at ho1; have HO1 := Lib.hid ho1; have HO01 : Hid (Only (fun k => w.heap.size ≤ k) w w1) := HOA.out.grown hgrow1 (fun k hk _ => by simp [Value.ownBlock] at hk); have HV1 : Hid (∀ k, v1.ownBlock = some k → w.heap.size ≤ k) := (fun k hk => by rcases hat1 with h | h; (have h' := h.symm.trans hk; simp [Value.ownBlock] at h'); (have h' := h.symm.trans hk; simp at h'; omega)); have hbk1 := HBK.out.grown hgrow1 (by simp [Value.ownBlock]); have d0 := hbk1.cell 0; have d1 := hbk1.cell 1; have d2 := hbk1.cell 2; have d3 := hbk1.cell 3; have d4 := hbk1.cell 4; have d5 := hbk1.cell 5; have d6 := hbk1.cell 6; obtain ⟨A1, cc1, rfl, -, -⟩ := ho1.len_; have hs1 := HO01.out.size; clear hown1 hgrow1 hat1 ho1 hbk1)
    | (at_builtin; refine wpList_append_mine _ rfl (.tmp 23) (.tmp 27) _ rfl 58 k0 _ 8 88 Try.underlying47 hk0 hkz0 hkz1 hkz2 rfl (by omega) (.slice A1 L.length cc1) L.length (ocs L) rfl (by exact HO1.out.alloc _) _ 1 1 [.int .i64 who, .int .i64 xn, .int .i64 xb, .int .i64 xrn, .int .i64 xra, .string xrt, .slice xha xhn xhc, .int .i64 xe] rfl rfl (by exact news_pushs rfl rfl) (by simp [Value.oneCell']) (by omega) (by simp only [maxLen]; omega) (by omega) _ rfl ?_; intro g2 o2 cc2 w2 hown2 hgrow2 hat2; have hnl := HH.out.newL (n' := n + 1) (L' := L ++ [(who, ⟨xn, xb, xrn, xra, xrt, xha, xhn, xhc, xe⟩)]) ((HO01.out.alloc (.cells #[.int .i64 who, .int .i64 xn, .int .i64 xb, .int .i64 xrn, .int .i64 xra, .string xrt, .slice xha xhn xhc, .int .i64 xe] 58)).grown hgrow2 (fun k hk _ => HV1.out k hk)) (by rw [List.length_append, ocs_append]; exact hown2) (fun k hk => by simp [Value.ownBlock] at hk; rw [← hk]; rcases hat2 with h | h; exact HV1.out _ h; rw [h]; simp; omega); obtain ⟨a0, a1, a2, a3, a4, HK⟩ := hnl; clear hown2 hgrow2 hat2))
  clear HO1 HV1 HO01 d0 d1 d2 d3 d4 d5 d6
  go_quiet (fail)
  go_wp2_with fail
  go_ret2

  exact ⟨rfl, HK.out _⟩
end Go.Proofs.Ytfndppjicneliaa
