/-
  The contract of each; no condition beyond those that each theorem states.
-/
import Derived.Test.YtbgmdjceecbbhaaDoorMode5
namespace Go.Proofs.YtbgmdjceecbbhaaDoor
open Go.RowKit Go.Rb
attribute [local irreducible] Go.wpQuiet

def cutT (r : Rc) (h : Ht) : List UInt8 := (r.t.drop h.f.toNat).take (h.t.toNat - h.f.toNat)
def hline (r : Rc) (h : Ht) : List UInt8 := Lib.itoa r.n ++ [58] ++ Lib.itoa h.f ++ [45] ++ Lib.itoa h.t ++ [58] ++ cutT r h
/-- A new block of one text. -/
def newsRow (x : Value) : Row (fun W W' => Below W.heap.size W W') := ⟨fun v W => ∃ g, v = .slice (some ⟨g, 0, none⟩) 1 1 ∧ Blk W g 9 #[x], fun _ _ _ ⟨g, e, h⟩ hR => ⟨g, e, h.below hR h.lt⟩⟩
theorem newsRow_mk (x : Value) (W : World) : (newsRow x).p (.slice (some ⟨W.heap.size, 0, none⟩) 1 1) (W.alloc (.cells #[x] 9)) := ⟨_, rfl, Blk.new _ _ _⟩
theorem cut_mk (t : List UInt8) (f u : Int) : (mk t).extract f.toNat u.toNat = mk ((t.drop f.toNat).take (u.toNat - f.toNat)) := by
  apply ByteArray.ext
  simp [ByteArray.data_extract, mk, List.extract_eq_take_drop]
set_option maxRecDepth 20000 in
set_option maxHeartbeats 1000000 in
theorem each_any (r : Rc) (hs : List Ht) (A : Option Addr) (n c : Nat) (w : World) (hl : hs.length = n) (hv : Own w 47 2 (.slice A n c) n (hts hs)) (hgd : ∀ h ∈ hs, good r.t.length h = true) (hT : Tb w) (hn : I64 r.n) (ht : r.t.length ≤ 60) (hn2 : n ≤ 1000) :
    Calls Tryd.prog 20 #[rcv r, .slice A n c] w fun e w' => ∃ v, e = .returned v ∧ Own w' 9 1 v n (lns (hs.map (hline r))) ∧ (∀ k, v.ownBlock = some k → w.heap.size ≤ k) ∧ Below w.heap.size w w' := by
  obtain ⟨i0, hi0, hz0, hz1, hz2⟩ := info_parts infoS
  have HTL := Lib.hid ht
  have hGD : Hid (∀ (i : Nat) (hi : i < hs.length), 0 ≤ hs[i].f ∧ hs[i].f ≤ hs[i].t ∧ hs[i].t ≤ (r.t.length : Int)) := fun i hi => by
    have := hgd hs[i] (List.getElem_mem hi)
    unfold good at this
    simp only [Bool.and_eq_true, decide_eq_true_eq] at this
    exact ⟨this.1.1, this.1.2, this.2⟩
  have hNB : Hid (∀ W, Tb W → Calls Tryd.prog 22 #[.int .i64 r.n] W fun e w' => e = .returned (.string (mk (Lib.itoa r.n))) ∧ Below W.heap.size W w') := fun W h => number_any r.n hn W h
  have HHL : Hid (∀ h, hline r h = Lib.itoa r.n ++ [58] ++ Lib.itoa h.f ++ [45] ++ Lib.itoa h.t ++ [58] ++ (r.t.drop h.f.toNat).take (h.t.toNat - h.f.toNat)) := fun _ => rfl
  generalize hline r = hln at *
  have hns : (mk (Lib.itoa r.n)).size ≤ 20 := itoa_len r.n hn
  unfold rcv
  obtain ⟨rn, ra, t⟩ := r
  simp only at hns hNB HHL HTL hGD ⊢
  have HL := Lib.hid hl
  have HV := Lib.hid hv
  have HBW := Lib.hid (below_al (Below.refl _ w) (.cells #[.int .i64 rn, .int .i64 ra, .string (mk t)] 29))
  have HSZ := Lib.hid (show (w.alloc (.cells #[.int .i64 rn, .int .i64 ra, .string (mk t)] 29)).heap.size = w.heap.size + 1 by simp)
  have HR1 := Lib.hid (Blk.new w 29 #[.int .i64 rn, .int .i64 ra, .string (mk t)])
  have HV1 := Lib.hid (HV.out.alloc (.cells #[.int .i64 rn, .int .i64 ra, .string (mk t)] 29))
  have HT1 := Lib.hid (hT.alloc (.cells #[.int .i64 rn, .int .i64 ra, .string (mk t)] 29))
  obtain ⟨NS, hNS⟩ : ∃ NS, mk (Lib.itoa rn) = NS := ⟨_, rfl⟩
  rw [hNS] at hns hNB
  have HNS := Lib.hid hNS
  clear hl hv hT hn ht hgd hNS
  go_enter Tryd.func20, Tryd.ntmps20
  go_wp2_with fail
  generalize w.alloc (.cells #[.int .i64 rn, .int .i64 ra, .string (mk t)] 29) = W1 at *
  go_loopw [5, 10] (fun ov iv wr => ∃ i : Nat, iv = .int .i64 i ∧ i ≤ n ∧ Hid (Own wr 9 1 ov i (lns ((hs.take i).map hln))) ∧ Hid (∀ k, ov.ownBlock = some k → W1.heap.size ≤ k) ∧ Hid (Below W1.heap.size W1 wr)) (fun _ iv _ => n - (intOf iv).toNat)
  case atStart => exact ⟨0, rfl, by omega, by show Own _ _ _ _ _ _; exact Own.nil_ _ _ _, fun k hk => by simp [Value.ownBlock] at hk, Below.refl _ _⟩
  case round =>
    obtain ⟨i, rfl, hi, hown, hok, hbw⟩ := hrel
    obtain ⟨Ao, co, rfl, -, -⟩ := hown.out.len_
    by_cases hlt : i < n
    · obtain ⟨pb, po, rfl, hpl, a0, a1⟩ := own_cell2 (HV1.out.below hbw.out (fun k hk => HV1.out.lt hk)) HL.out i hlt
      obtain ⟨q0, q1, q2⟩ := hGD.out i (by rw [HL.out]; exact hlt)
      have hmap : lns ((hs.take (i + 1)).map hln) = lns ((hs.take i).map hln) ++ [.string (mk (hln (hs[i]'(by rw [HL.out]; exact hlt))))] := by
        rw [List.take_add_one, List.getElem?_eq_getElem (by rw [HL.out]; exact hlt), List.map_append, lns_append]; rfl
      generalize hs[i]'(by rw [HL.out]; exact hlt) = h at *
      obtain ⟨f, u⟩ := h
      simp only at a0 a1 q0 q1 q2
      have hfi : I64 f := ⟨by omega, by have := HTL.out; omega⟩
      have hui : I64 u := ⟨by omega, by have := HTL.out; omega⟩
      have hNF : Hid (∀ W, Tb W → Calls Tryd.prog 22 #[.int .i64 f] W fun e w' => e = .returned (.string (mk (Lib.itoa f))) ∧ Below W.heap.size W w') := fun W h => number_any f hfi W h
      have hNU : Hid (∀ W, Tb W → Calls Tryd.prog 22 #[.int .i64 u] W fun e w' => e = .returned (.string (mk (Lib.itoa u))) ∧ Below W.heap.size W w') := fun W h => number_any u hui W h
      have hfs : (mk (Lib.itoa f)).size ≤ 20 := itoa_len f hfi
      have hus : (mk (Lib.itoa u)).size ≤ 20 := itoa_len u hui
      have hSX := cut_mk t f u
      have hQ : 0 ≤ f ∧ f ≤ u ∧ u ≤ ((mk t).size : Int) := ⟨q0, q1, q2⟩
      have hss : (mk ((t.drop f.toNat).take (u.toNat - f.toNat))).size ≤ 60 := by have := HTL.out; rw [mk_size, List.length_take, List.length_drop]; omega
      have hlv : NS ++ ⟨#[58]⟩ ++ mk (Lib.itoa f) ++ ⟨#[45]⟩ ++ mk (Lib.itoa u) ++ ⟨#[58]⟩ ++ mk ((t.drop f.toNat).take (u.toNat - f.toNat)) = mk (hln ⟨f, u⟩) := by
        rw [HHL.out, ← HNS.out, show (⟨#[58]⟩ : ByteArray) = mk [58] from rfl, show (⟨#[45]⟩ : ByteArray) = mk [45] from rfl]
        simp only [mk_append]
      generalize mk (Lib.itoa f) = FSx at *
      generalize mk (Lib.itoa u) = US at *
      generalize mk ((t.drop f.toNat).take (u.toNat - f.toNat)) = SL at *
      generalize mk t = TS at *
      have HKO := hok
      have HSX := Lib.hid hSX
      have HQ := Lib.hid hQ
      have HMAP := Lib.hid hmap
      have HR2 := Lib.hid (HR1.out.below hbw.out (by have := HSZ.out; omega))
      have HX2 := Lib.hid (Blk.new wr 47 #[.int .i64 f, .int .i64 u])
      have HT2 := Lib.hid (HT1.out.below' hbw.out)
      have i1 : (i : Int) < (n : Int) := by omega
      have i2 : (0 : Int) ≤ (i : Int) := by omega
      obtain ⟨LV, hLV⟩ : ∃ X, NS ++ ⟨#[58]⟩ ++ FSx ++ ⟨#[45]⟩ ++ US ++ ⟨#[58]⟩ ++ SL = X := ⟨_, rfl⟩
      rw [hLV] at hlv
      have HLE := Lib.hid hLV
      have HLV := Lib.hid hlv
      clear hfi hui q0 q1 q2 hSX hQ hlv hmap hLV
      go_wp2_with fail
      have HR3 := Lib.hid (HR2.out.alloc (.cells #[.int .i64 f, .int .i64 u] 47))
      have HT3 := Lib.hid (HT2.out.alloc (.cells #[.int .i64 f, .int .i64 u] 47))
      have HO3 := Lib.hid (hown.out.alloc (.cells #[.int .i64 f, .int .i64 u] 47))
      have HB3 := Lib.hid (show Below W1.heap.size W1 (wr.alloc (.cells #[.int .i64 f, .int .i64 u] 47)) from hbw.out.alloc hbw.out.size _)
      have hg3 : wr.heap.size < (wr.alloc (.cells #[.int .i64 f, .int .i64 u] 47)).heap.size := by simp
      generalize wr.alloc (.cells #[.int .i64 f, .int .i64 u] 47) = W3 at *
      have y0 := HR3.out.drew.cell 0
      have y2 := HR3.out.drew.cell 2
      have z0 := HX2.out.drew.cell 0
      have z1 := HX2.out.drew.cell 1
      simp only [List.getElem?_toArray, List.getElem?_cons_succ, List.getElem?_cons_zero] at y0 y2 z0 z1
      have hg4 : w.heap.size < W3.drew.heap.size := HR3.out.lt
      have hg5 : wr.heap.size < W3.drew.heap.size := hg3
      have HT4 := Lib.hid HT3.out.drew
      clear hg3 a0 a1
      refine region_tail 24 (by kernel_rfl) (by kernel_rfl) (fun W W' => Below W.heap.size W W')
        [.val (.slice Ao i co),
         .val (.pointer (some ⟨w.heap.size, 0, none⟩)),
         .val (.int .i64 rn),
         .val (.string NS),
         .val (.string (NS ++ ⟨#[58]⟩)),
         .val (.pointer (some ⟨wr.heap.size, 0, none⟩)),
         .val (.int .i64 f),
         .val (.string FSx),
         .val (.string ((NS ++ ⟨#[58]⟩) ++ FSx)),
         .val (.string (((NS ++ ⟨#[58]⟩) ++ FSx) ++ ⟨#[45]⟩)),
         .val (.pointer (some ⟨wr.heap.size, 1, none⟩)),
         .val (.int .i64 u),
         .val (.string US),
         .val (.string ((((NS ++ ⟨#[58]⟩) ++ FSx) ++ ⟨#[45]⟩) ++ US)),
         .val (.string (((((NS ++ ⟨#[58]⟩) ++ FSx) ++ ⟨#[45]⟩) ++ US) ++ ⟨#[58]⟩)),
         .val (.pointer (some ⟨w.heap.size, 2, none⟩)),
         .val (.string TS),
         .val (.pointer (some ⟨wr.heap.size, 0, none⟩)),
         .val (.int .i64 f),
         .val (.pointer (some ⟨wr.heap.size, 1, none⟩)),
         .val (.int .i64 u),
         .val (.string SL),
         .val (.string LV),
         newsRow (.string LV)]
        (fun W => Below.refl _ W) (fun _ _ _ h k => below_trans h k) (by kernel_rfl) ?_ ?_
      · refine ⟨?_, ?_, ?_, ?_, ?_, ?_, ?_, ?_, ?_, ?_, ?_, ?_, ?_, ?_, ?_, ?_, ?_, ?_, ?_, ?_, ?_, ?_, ?_, ?_, trivial⟩
        · intro ra RW hR hk hd K hK
          obtain ⟨e5, g5⟩ := hk 5 (.slice Ao i co) (by kernel_rfl) rfl
          clear hk hd
          have HR := Lib.hid hR
          clear hR
          go_simp
          exact hK _ _ (Below.refl _ _) rfl
        · intro ra RW hR hk hd K hK
          obtain ⟨e2, g2⟩ := hk 2 (.pointer (some ⟨w.heap.size, 0, none⟩)) (by kernel_rfl) rfl
          clear hk hd
          have HR := Lib.hid hR
          clear hR
          go_simp
          exact hK _ _ (Below.refl _ _) rfl
        · intro ra RW hR hk hd K hK
          obtain ⟨v15, e15, g15, f15⟩ := hd 1 15 (by kernel_rfl) rfl
          have f15 : v15 = .pointer (some ⟨w.heap.size, 0, none⟩) := f15
          subst f15
          clear hk hd
          have HR := Lib.hid hR
          clear hR
          have dd0 := (HR.out.cell (p := ⟨w.heap.size, 0, none⟩) hg4).trans y0
          go_simp
          exact hK _ _ (Below.refl _ _) rfl
        · intro ra RW hR hk hd K hK
          obtain ⟨v16, e16, g16, f16⟩ := hd 2 16 (by kernel_rfl) rfl
          have f16 : v16 = .int .i64 rn := f16
          subst f16
          clear hk hd
          have HR := Lib.hid hR
          clear hR
          go_simp
          refine (hNB.out RW (HT4.out.below' HR.out)).mono ?_
          rintro e w2 ⟨rfl, hb2⟩
          exact hK _ _ hb2 rfl
        · intro ra RW hR hk hd K hK
          obtain ⟨v17, e17, g17, f17⟩ := hd 3 17 (by kernel_rfl) rfl
          have f17 : v17 = .string NS := f17
          subst f17
          clear hk hd
          have HR := Lib.hid hR
          clear hR
          go_simp
          rw [if_neg (by omega)]
          go_simp
          exact hK _ _ (Below.refl _ _) rfl
        · intro ra RW hR hk hd K hK
          obtain ⟨e7, g7⟩ := hk 7 (.pointer (some ⟨wr.heap.size, 0, none⟩)) (by kernel_rfl) rfl
          clear hk hd
          have HR := Lib.hid hR
          clear hR
          go_simp
          exact hK _ _ (Below.refl _ _) rfl
        · intro ra RW hR hk hd K hK
          obtain ⟨v19, e19, g19, f19⟩ := hd 5 19 (by kernel_rfl) rfl
          have f19 : v19 = .pointer (some ⟨wr.heap.size, 0, none⟩) := f19
          subst f19
          clear hk hd
          have HR := Lib.hid hR
          clear hR
          have dd0 := (HR.out.cell (p := ⟨wr.heap.size, 0, none⟩) hg5).trans z0
          go_simp
          exact hK _ _ (Below.refl _ _) rfl
        · intro ra RW hR hk hd K hK
          obtain ⟨v20, e20, g20, f20⟩ := hd 6 20 (by kernel_rfl) rfl
          have f20 : v20 = .int .i64 f := f20
          subst f20
          clear hk hd
          have HR := Lib.hid hR
          clear hR
          go_simp
          refine (hNF.out RW (HT4.out.below' HR.out)).mono ?_
          rintro e w2 ⟨rfl, hb2⟩
          exact hK _ _ hb2 rfl
        · intro ra RW hR hk hd K hK
          obtain ⟨v18, e18, g18, f18⟩ := hd 4 18 (by kernel_rfl) rfl
          have f18 : v18 = .string (NS ++ ⟨#[58]⟩) := f18
          subst f18
          obtain ⟨v21, e21, g21, f21⟩ := hd 7 21 (by kernel_rfl) rfl
          have f21 : v21 = .string FSx := f21
          subst f21
          clear hk hd
          have HR := Lib.hid hR
          clear hR
          go_simp
          rw [if_neg (by omega)]
          go_simp
          exact hK _ _ (Below.refl _ _) rfl
        · intro ra RW hR hk hd K hK
          obtain ⟨v22, e22, g22, f22⟩ := hd 8 22 (by kernel_rfl) rfl
          have f22 : v22 = .string ((NS ++ ⟨#[58]⟩) ++ FSx) := f22
          subst f22
          clear hk hd
          have HR := Lib.hid hR
          clear hR
          go_simp
          rw [if_neg (by omega)]
          go_simp
          exact hK _ _ (Below.refl _ _) rfl
        · intro ra RW hR hk hd K hK
          obtain ⟨e7, g7⟩ := hk 7 (.pointer (some ⟨wr.heap.size, 0, none⟩)) (by kernel_rfl) rfl
          clear hk hd
          have HR := Lib.hid hR
          clear hR
          go_simp
          exact hK _ _ (Below.refl _ _) rfl
        · intro ra RW hR hk hd K hK
          obtain ⟨v24, e24, g24, f24⟩ := hd 10 24 (by kernel_rfl) rfl
          have f24 : v24 = .pointer (some ⟨wr.heap.size, 1, none⟩) := f24
          subst f24
          clear hk hd
          have HR := Lib.hid hR
          clear hR
          have dd0 := (HR.out.cell (p := ⟨wr.heap.size, 1, none⟩) hg5).trans z1
          go_simp
          exact hK _ _ (Below.refl _ _) rfl
        · intro ra RW hR hk hd K hK
          obtain ⟨v25, e25, g25, f25⟩ := hd 11 25 (by kernel_rfl) rfl
          have f25 : v25 = .int .i64 u := f25
          subst f25
          clear hk hd
          have HR := Lib.hid hR
          clear hR
          go_simp
          refine (hNU.out RW (HT4.out.below' HR.out)).mono ?_
          rintro e w2 ⟨rfl, hb2⟩
          exact hK _ _ hb2 rfl
        · intro ra RW hR hk hd K hK
          obtain ⟨v23, e23, g23, f23⟩ := hd 9 23 (by kernel_rfl) rfl
          have f23 : v23 = .string (((NS ++ ⟨#[58]⟩) ++ FSx) ++ ⟨#[45]⟩) := f23
          subst f23
          obtain ⟨v26, e26, g26, f26⟩ := hd 12 26 (by kernel_rfl) rfl
          have f26 : v26 = .string US := f26
          subst f26
          clear hk hd
          have HR := Lib.hid hR
          clear hR
          go_simp
          rw [if_neg (by omega)]
          go_simp
          exact hK _ _ (Below.refl _ _) rfl
        · intro ra RW hR hk hd K hK
          obtain ⟨v27, e27, g27, f27⟩ := hd 13 27 (by kernel_rfl) rfl
          have f27 : v27 = .string ((((NS ++ ⟨#[58]⟩) ++ FSx) ++ ⟨#[45]⟩) ++ US) := f27
          subst f27
          clear hk hd
          have HR := Lib.hid hR
          clear hR
          go_simp
          rw [if_neg (by omega)]
          go_simp
          exact hK _ _ (Below.refl _ _) rfl
        · intro ra RW hR hk hd K hK
          obtain ⟨e2, g2⟩ := hk 2 (.pointer (some ⟨w.heap.size, 0, none⟩)) (by kernel_rfl) rfl
          clear hk hd
          have HR := Lib.hid hR
          clear hR
          go_simp
          exact hK _ _ (Below.refl _ _) rfl
        · intro ra RW hR hk hd K hK
          obtain ⟨v29, e29, g29, f29⟩ := hd 15 29 (by kernel_rfl) rfl
          have f29 : v29 = .pointer (some ⟨w.heap.size, 2, none⟩) := f29
          subst f29
          clear hk hd
          have HR := Lib.hid hR
          clear hR
          have dd0 := (HR.out.cell (p := ⟨w.heap.size, 2, none⟩) hg4).trans y2
          go_simp
          exact hK _ _ (Below.refl _ _) rfl
        · intro ra RW hR hk hd K hK
          obtain ⟨e7, g7⟩ := hk 7 (.pointer (some ⟨wr.heap.size, 0, none⟩)) (by kernel_rfl) rfl
          clear hk hd
          have HR := Lib.hid hR
          clear hR
          go_simp
          exact hK _ _ (Below.refl _ _) rfl
        · intro ra RW hR hk hd K hK
          obtain ⟨v31, e31, g31, f31⟩ := hd 17 31 (by kernel_rfl) rfl
          have f31 : v31 = .pointer (some ⟨wr.heap.size, 0, none⟩) := f31
          subst f31
          clear hk hd
          have HR := Lib.hid hR
          clear hR
          have dd0 := (HR.out.cell (p := ⟨wr.heap.size, 0, none⟩) hg5).trans z0
          go_simp
          exact hK _ _ (Below.refl _ _) rfl
        · intro ra RW hR hk hd K hK
          obtain ⟨e7, g7⟩ := hk 7 (.pointer (some ⟨wr.heap.size, 0, none⟩)) (by kernel_rfl) rfl
          clear hk hd
          have HR := Lib.hid hR
          clear hR
          go_simp
          exact hK _ _ (Below.refl _ _) rfl
        · intro ra RW hR hk hd K hK
          obtain ⟨v33, e33, g33, f33⟩ := hd 19 33 (by kernel_rfl) rfl
          have f33 : v33 = .pointer (some ⟨wr.heap.size, 1, none⟩) := f33
          subst f33
          clear hk hd
          have HR := Lib.hid hR
          clear hR
          have dd0 := (HR.out.cell (p := ⟨wr.heap.size, 1, none⟩) hg5).trans z1
          go_simp
          exact hK _ _ (Below.refl _ _) rfl
        · intro ra RW hR hk hd K hK
          obtain ⟨v30, e30, g30, f30⟩ := hd 16 30 (by kernel_rfl) rfl
          have f30 : v30 = .string TS := f30
          subst f30
          obtain ⟨v32, e32, g32, f32⟩ := hd 18 32 (by kernel_rfl) rfl
          have f32 : v32 = .int .i64 f := f32
          subst f32
          obtain ⟨v34, e34, g34, f34⟩ := hd 20 34 (by kernel_rfl) rfl
          have f34 : v34 = .int .i64 u := f34
          subst f34
          clear hk hd
          have HR := Lib.hid hR
          clear hR
          go_simp
          rw [if_pos ⟨by have := HQ.out; omega, HQ.out.2.2⟩, if_pos ⟨HQ.out.1, HQ.out.2.1⟩]
          go_simp
          exact hK _ _ (Below.refl _ _) (congrArg Value.string HSX.out)
        · intro ra RW hR hk hd K hK
          obtain ⟨v28, e28, g28, f28⟩ := hd 14 28 (by kernel_rfl) rfl
          have f28 : v28 = .string (((((NS ++ ⟨#[58]⟩) ++ FSx) ++ ⟨#[45]⟩) ++ US) ++ ⟨#[58]⟩) := f28
          subst f28
          obtain ⟨v35, e35, g35, f35⟩ := hd 21 35 (by kernel_rfl) rfl
          have f35 : v35 = .string SL := f35
          subst f35
          clear hk hd
          have HR := Lib.hid hR
          clear hR
          go_simp
          rw [if_neg (by omega)]
          go_simp
          exact hK _ _ (Below.refl _ _) (by rw [HLE.out]; rfl)
        · intro ra RW hR hk hd K hK
          obtain ⟨v36, e36, g36, f36⟩ := hd 22 36 (by kernel_rfl) rfl
          have f36 : v36 = .string LV := f36
          subst f36
          clear hk hd
          have HR := Lib.hid hR
          clear hR
          go_simp
          exact hK _ _ (below_al (Below.refl _ _) _) (newsRow_mk _ _)
      intro vs RW hR hF
      have q0 : vs 0 = .slice Ao i co := hF 0 (by decide)
      have q1 : vs 1 = .pointer (some ⟨w.heap.size, 0, none⟩) := hF 1 (by decide)
      have q2 : vs 2 = .int .i64 rn := hF 2 (by decide)
      have q3 : vs 3 = .string NS := hF 3 (by decide)
      have q4 : vs 4 = .string (NS ++ ⟨#[58]⟩) := hF 4 (by decide)
      have q5 : vs 5 = .pointer (some ⟨wr.heap.size, 0, none⟩) := hF 5 (by decide)
      have q6 : vs 6 = .int .i64 f := hF 6 (by decide)
      have q7 : vs 7 = .string FSx := hF 7 (by decide)
      have q8 : vs 8 = .string ((NS ++ ⟨#[58]⟩) ++ FSx) := hF 8 (by decide)
      have q9 : vs 9 = .string (((NS ++ ⟨#[58]⟩) ++ FSx) ++ ⟨#[45]⟩) := hF 9 (by decide)
      have q10 : vs 10 = .pointer (some ⟨wr.heap.size, 1, none⟩) := hF 10 (by decide)
      have q11 : vs 11 = .int .i64 u := hF 11 (by decide)
      have q12 : vs 12 = .string US := hF 12 (by decide)
      have q13 : vs 13 = .string ((((NS ++ ⟨#[58]⟩) ++ FSx) ++ ⟨#[45]⟩) ++ US) := hF 13 (by decide)
      have q14 : vs 14 = .string (((((NS ++ ⟨#[58]⟩) ++ FSx) ++ ⟨#[45]⟩) ++ US) ++ ⟨#[58]⟩) := hF 14 (by decide)
      have q15 : vs 15 = .pointer (some ⟨w.heap.size, 2, none⟩) := hF 15 (by decide)
      have q16 : vs 16 = .string TS := hF 16 (by decide)
      have q17 : vs 17 = .pointer (some ⟨wr.heap.size, 0, none⟩) := hF 17 (by decide)
      have q18 : vs 18 = .int .i64 f := hF 18 (by decide)
      have q19 : vs 19 = .pointer (some ⟨wr.heap.size, 1, none⟩) := hF 19 (by decide)
      have q20 : vs 20 = .int .i64 u := hF 20 (by decide)
      have q21 : vs 21 = .string SL := hF 21 (by decide)
      have q22 : vs 22 = .string LV := hF 22 (by decide)
      have F37 := Lib.hid (hF 23 (by decide))
      simp only [List.take_succ_cons, List.take_zero, List.drop_succ_cons, List.drop_zero, setAll, List.setIfInBounds_toArray, List.set_cons_zero, List.set_cons_succ, q0, q1, q2, q3, q4, q5, q6, q7, q8, q9, q10, q11, q12, q13, q14, q15, q16, q17, q18, q19, q20, q21, q22]
      clear hF q0 q1 q2 q3 q4 q5 q6 q7 q8 q9 q10 q11 q12 q13 q14 q15 q16 q17 q18 q19 q20 q21 q22
      generalize vs 23 = v37 at *
      clear vs
      have HRW := Lib.hid hR
      clear hR
      obtain ⟨g42, rfl, hnw⟩ := F37.out
      have HNW := Lib.hid hnw
      clear hnw F37
      have HOU5 := Lib.hid (HO3.out.drew.below HRW.out (fun k hk => HO3.out.lt hk))
      go_wp2_with (at_builtin; refine wpList_append_mine _ rfl (.tmp 14) (.tmp 37) _ rfl 9 i0 _ 1 16 Tryd.underlying34 hi0 hz0 hz1 hz2 rfl (by omega) (.slice Ao i co) i _ rfl (by exact HOU5.out) ⟨g42, 0, none⟩ 1 1 [.string LV] rfl rfl (by exact news_blk HNW.out) (by simp [Value.oneCell']) (by omega) (by simp only [maxLen]; omega) (by omega) _ rfl ?_; intro g6 o6 c6 w6 hown6 hgrow6 hat6; have HO6 := Lib.hid hown6; have hb5 : Below W1.heap.size W1 RW := HB3.out.trans (((below_drewN (Below.refl W3.heap.size W3) 1).trans HRW.out).mono HB3.out.size); have HB6 : Hid (Below W1.heap.size W1 w6) := Below.grown hb5 hgrow6 hb5.size (fun k hk => HKO.out k hk); have HK6 : Hid (W1.heap.size ≤ g6) := hat6.elim (fun h => HKO.out _ h) (fun h => by rw [h]; exact hb5.size); clear hown6 hgrow6 hat6 hb5)
      go_roundw
      case rel =>
        refine ⟨i + 1, by go_num, by omega, ?_, ?_, HB6.out⟩
        · show Own _ _ _ _ _ _
          rw [HMAP.out, ← HLV.out]; exact HO6.out
        · exact fun k hk => by obtain rfl : g6 = k := Option.some.inj hk; exact HK6.out
      case measure => simp [intOf]; omega
    · obtain rfl : i = n := by omega
      have i1 : ¬ (i : Int) < (i : Int) := by omega
      go_wp2_with fail
      go_ret
      refine ⟨_, rfl, ?_, fun k hk => by have := hok.out k hk; have := HSZ.out; omega, HBW.out.trans (hbw.out.mono HBW.out.size)⟩
      have := hown.out
      rw [List.take_of_length_le (by rw [HL.out]; exact Nat.le_refl _)] at this
      exact this
end Go.Proofs.YtbgmdjceecbbhaaDoor
