/-
  The contracts of the tree's functions New, Add where nothing is added, mark, Cancel; no condition beyond those that each theorem states.
-/
import Derived.Test.YtddklpphcfgooaaTree2
namespace Go.Proofs.Ytddklpphcfgooaa
open Go.RowKit Go.Rb

set_option maxRecDepth 20000 in
set_option maxHeartbeats 2000000 in
theorem add_bad {S : Nat → Prop} {t : Nat} {s : TS} (i : Int) (w : World) (hR : Rep w S t s) (hi : ¬ thereB s i) :
    Calls Try.prog 10 #[pp t, .int .i64 i] w fun e w' => e = .returned (.tuple #[.int .i64 0, .int .i64 2]) ∧ w = w' := by
  obtain ⟨av, ks, h⟩ := hR
  have HC := Lib.hid (there_any i w h)
  rw [decide_eq_false hi] at HC
  clear h hi
  unfold pp at HC ⊢
  go_enter Try.func10, Try.ntmps10
  go_wp2_with (go_at_call 20; refine HC.out.mono ?_; rintro e1 w1 ⟨rfl, rfl⟩)
  go_ret2
  exact ⟨rfl, rfl⟩

set_option maxRecDepth 20000 in
set_option maxHeartbeats 2000000 in
theorem add_full {S : Nat → Prop} {t : Nat} {s : TS} (i : Int) (w : World) (hR : Rep w S t s) (hi : thereB s i) (hn : ¬ s.n < 256) :
    Calls Try.prog 10 #[pp t, .int .i64 i] w fun e w' => e = .returned (.tuple #[.int .i64 0, .int .i64 16]) ∧ w = w' := by
  obtain ⟨av, ks, h⟩ := hR
  have HC := Lib.hid (there_any i w h)
  rw [decide_eq_true hi] at HC
  have c0 := h.c0
  obtain ⟨A, cap, rfl, -, -⟩ := h.ao.len_
  have l2 : ¬ (s.n : Int) < 256 := by omega
  clear h hi
  generalize s.n = n at *
  unfold pp at HC ⊢
  go_enter Try.func10, Try.ntmps10
  go_wp2_with (go_at_call 20; refine HC.out.mono ?_; rintro e1 w1 ⟨rfl, rfl⟩)
  go_ret2
  exact ⟨rfl, rfl⟩

set_option maxHeartbeats 2000000 in
theorem new_any (w : World) : Calls Try.prog 8 #[] w fun e w' => ∃ t S, e = .returned (pp t) ∧ Below w.heap.size w w' ∧ Rep w' S t rootS ∧ ∀ q, S q → w.heap.size ≤ q := by
  obtain ⟨w0, hw0⟩ : ∃ w0, w0 = w := ⟨_, rfl⟩
  subst hw0
  go_enter Try.func8, Try.ntmps8
  go_wp2
  go_ret
  have h1 : (w0.alloc (.cells #[.int .i64 (-1), .int .i64 0, .slice none 0 0] 52)).heap.size = w0.heap.size + 1 := by simp
  refine ⟨w0.heap.size + 1, fun q => q = w0.heap.size ∨ q = w0.heap.size + 1, rfl, (below_al (Below.refl _ _) _).alloc (by simp) _, ⟨.slice (some ⟨w0.heap.size, 0, none⟩) 1 1, fun _ => .slice none 0 0, ?_, ?_, ?_, ?_, rfl, rfl, .inr rfl, ?_, ?_, ?_, by decide⟩, ?_⟩
  · have := Blk.new (w0.alloc (.cells #[.int .i64 (-1), .int .i64 0, .slice none 0 0] 52)) 55 #[.slice (some ⟨w0.heap.size, 0, none⟩) 1 1]
    rw [h1] at this
    exact this
  · exact (Own.lit w0 52 3 1 #[.int .i64 (-1), .int .i64 0, .slice none 0 0] rfl (by decide)).alloc _
  · intro i hi
    obtain rfl : i = 0 := by simpa [rootS, TS.n] using hi
    exact Own.nil_ _ _ _
  · intro i j hi hj hij
    have : i < 1 := hi
    have : j < 1 := hj
    omega
  · intro k hk
    left
    have : w0.heap.size = k := by simpa [Value.ownBlock] using hk
    exact this.symm
  · intro i hi k hk
    simp [Value.ownBlock] at hk
  · rintro k (rfl | rfl) <;> simp <;> omega
  · rintro q (rfl | rfl) <;> omega

theorem getD_get {α : Type} {l : List α} {d : α} {j : Nat} (h : j < l.length) : l[j]? = some (l.getD j d) := by
  rw [List.getD_eq_getElem?_getD, List.getElem?_eq_getElem h]; rfl
theorem take_one {α : Type} {l : List α} {d : α} {j : Nat} (h : j < l.length) : l.take (j + 1) = l.take j ++ [l.getD j d] := by
  rw [List.take_succ_eq_append_getElem h, List.getD_eq_getElem?_getD, List.getElem?_eq_getElem h]; rfl
theorem getD_mem {α : Type} {l : List α} {d : α} {j : Nat} (h : j < l.length) : l.getD j d ∈ l := by
  rw [List.getD_eq_getElem?_getD, List.getElem?_eq_getElem h]; exact List.getElem_mem h
theorem count_set0 {l : List Int} {i : Nat} {c : Int} (h : i < l.length) (h0 : l.getD i 0 = 0) (hc : c ≠ 0) : 1 + (l.set i c).count 0 = l.count 0 := by
  induction l generalizing i with
  | nil => simp at h
  | cons x l ih =>
    cases i with
    | zero =>
      have : x = 0 := by simpa using h0
      subst this
      simp [List.count_cons, hc]
      omega
    | succ i =>
      have := ih (i := i) (by simpa using h) (by simpa using h0)
      simp only [List.set_cons_succ, List.count_cons]
      omega

set_option maxRecDepth 20000 in
set_option maxHeartbeats 4000000 in
theorem mark_any {S : Nat → Prop} {t g off cap : Nat} {ks : Nat → Value} {up : List Int} {ki : List (List Nat)} (hsh : Sh up ki) {c : Int} (hc : c ≠ 0) (hkb : ∀ i, (ki.getD i []).length ≤ 256) :
    ∀ (N n : Nat) (ca : List Int) (w : World), up.length - n ≤ N → n < up.length → RepA w S t (.slice (some ⟨g, off, none⟩) up.length cap) ks ⟨up, ca, ki⟩ → (∀ i, Und up n i → i ≠ n → ca.getD (upN up i) 0 ≠ 0 → ca.getD i 0 ≠ 0) →
    Calls Try.prog 21 #[pp t, .int .i64 (n : Int), .int .i64 c] w fun e w' => ∃ (ca' : List Int) (k : Nat), e = .returned (.int .i64 (k : Int)) ∧ k + ca'.count 0 = ca.count 0 ∧ Mk (Und up n) c ca ca' ∧ Only (fun q => q = g) w w' ∧ RepA w' S t (.slice (some ⟨g, off, none⟩) up.length cap) ks ⟨up, ca', ki⟩ := by
  intro N
  induction N with
  | zero => intro n ca w h1 h2; omega
  | succ N ih =>
  intro n ca w hN hn h hz
  have hIH := Lib.hid ih
  clear ih
  have hHZ := Lib.hid hz
  have hHSH := Lib.hid hsh
  have hHKB := Lib.hid hkb
  clear hz hsh hkb
  have hcl : ca.length = up.length := h.cl
  have hnn : up.length ≤ 256 := h.nn
  have c0 := h.c0
  obtain ⟨g', off', cap', hv, -, cc, -, hf, sg, hgt⟩ := h.aform (i := n) hn
  simp only [TS.n, Value.slice.injEq, Option.some.injEq, Addr.mk.injEq, true_and, and_true] at hv
  obtain ⟨⟨rfl, rfl⟩, rfl⟩ := hv
  have HH := Lib.hid h
  clear h
  have l1 : (n : Int) < (up.length : Int) := by omega
  by_cases h0 : ca.getD n 0 = 0
  · simp only [h0] at cc
    have hko := HH.out.ko n hn
    obtain ⟨A, kc, hkv, -, -⟩ := hko.len_
    have hkc := (HH.out.aform (i := n) hn)
    obtain ⟨g', off', cap', hv, -, -, ck, -, -, -⟩ := hkc
    simp only [TS.n, Value.slice.injEq, Option.some.injEq, Addr.mk.injEq, true_and, and_true] at hv
    obtain ⟨⟨rfl, rfl⟩, rfl⟩ := hv
    rw [hkv] at ck
    have R1 := RepA.setCause (s := ⟨up, ca, ki⟩) HH.out n hn c
    have HR1 := Lib.hid R1
    have HO1 : Hid (Only (fun q => q = g) w (w.setCell ⟨g, off + n * 3 + 1, none⟩ (.int .i64 c))) := (Only.refl (fun q => q = g) w).setCell (p := ⟨g, off + n * 3 + 1, none⟩) (fun _ => rfl) _
    have HM1 : Hid (Mk (upto up n []) c ca (ca.set n c)) := mk_first (by omega) h0
    have HC1 : Hid (1 + (ca.set n c).count 0 = ca.count 0) := count_set0 (by omega) h0 hc
    have HKV := Lib.hid hkv
    have hk1 := hHKB.out n
    clear R1 hkv hko HH
    generalize hkd : ki.getD n [] = kids at *
    have HKD := Lib.hid hkd
    clear hkd
    have hm : kids.length ≤ 256 := hk1
    generalize hmm : kids.length = m at *
    generalize hul : up.length = U at *
    have HUL := Lib.hid hul; have HMM := Lib.hid hmm
    clear hul hmm
    unfold pp
    go_enter Try.func21, Try.ntmps21
    go_wp2
    go_loopw [8, 31] (fun al i wr => ∃ (j : Nat) (ca' : List Int) (cnt : Nat), j ≤ m ∧ i = .int .i64 j ∧ al = .int .i64 (cnt : Int) ∧ cnt + ca'.count 0 = ca.count 0 ∧ Mk (upto up n (kids.take j)) c ca ca' ∧ Only (fun q => q = g) w wr ∧ RepA wr S t (.slice (some ⟨g, off, none⟩) U cap) ks ⟨up, ca', ki⟩) (fun _ i _ => m - (intOf i).toNat)
    case atStart =>
      refine ⟨0, ca.set n c, 1, by omega, rfl, rfl, HC1.out, HM1.out, HO1.out, ?_⟩
      have := HR1.out
      simp only [TS.n, HUL.out] at this
      exact this
    case round =>
      obtain ⟨j, ca', cnt, hj, rfl, rfl, hcn, hmk, hon, hrep⟩ := hrel
      have hcnt : ca.count 0 ≤ ca.length := List.count_le_length
      by_cases hlt : j < m
      · have i5 : (j : Int) < (m : Int) := by omega
        have hko := hrep.ko n (by simpa only [TS.n, HUL.out] using hn)
        simp only [HKD.out, HMM.out, HKV.out] at hko
        obtain ⟨gk, ok, kc', hv, -, -, -, hcell, -⟩ := hko.form (by omega)
        simp only [Value.slice.injEq, true_and] at hv
        obtain ⟨rfl, rfl⟩ := hv
        have hjl : j < kids.length := by rw [HMM.out]; exact hlt
        have y0 : wr.cell? ⟨gk, ok + j, none⟩ = some (.int .i64 (kids.getD j 0 : Nat)) := by
          rw [hcell j (by omega), List.getElem?_map, getD_get (d := 0) hjl]; rfl
        have hmem : kids.getD j 0 ∈ ki.getD n [] := by rw [HKD.out]; exact getD_mem hjl
        obtain ⟨p1, p2, p3⟩ := (hHSH.out.ks n (by rw [HUL.out]; exact hn) _).1 hmem
        have hup := (hHSH.out.uk _ p1 p2).2
        rw [HUL.out] at p2
        have HCALL := Lib.hid (hIH.out (kids.getD j 0) ca' wr (by omega) p2 hrep (Mk.cz hc hHSH.out (by rw [HUL.out]; exact hn) (by rw [HUL.out]; exact hcl) hHZ.out hmk hmem))
        have HT : Hid (kids.take (j + 1) = kids.take j ++ [kids.getD j 0]) := take_one hjl
        have HMK := Lib.hid hmk; have HON := Lib.hid hon
        clear hrep hko hcell hmem hmk hon hup
        generalize kids.getD j 0 = kid at *
        unfold pp at HCALL
        go_wp2_with (go_at_call 21; refine HCALL.out.mono ?_; rintro e1 w1 ⟨ca2, cnt2, rfl, hc2, hm2, ho2, hr2⟩; have HC2 := Lib.hid hc2; have HM2 := Lib.hid hm2; have HO2 := Lib.hid ho2; have HR2 := Lib.hid hr2; clear hm2 ho2 hr2; have hw : cnt + cnt2 ≤ 256 := by omega)
        go_roundw
        case rel => exact ⟨j + 1, ca2, cnt + cnt2, by omega, by go_num, by go_num, by have := HC2.out; omega, by rw [HT.out]; exact mk_next hc HMK.out HM2.out, HON.out.trans HO2.out (fun _ _ h => h), HR2.out⟩
        case measure => simp [intOf]; omega
      · obtain rfl : j = m := by omega
        have HMK := Lib.hid hmk; have HON := Lib.hid hon; have HRP := Lib.hid hrep; have HCN := Lib.hid hcn
        clear hmk hon hrep
        go_wp2
        go_ret
        refine ⟨ca', cnt, rfl, HCN.out, ?_, HON.out, HRP.out⟩
        refine mk_all hHSH.out (by rw [HUL.out]; exact hn) ?_
        have := HMK.out
        rwa [← HMM.out, List.take_length, ← HKD.out] at this
  · have HS := Lib.hid (mk_stop (c := c) hHZ.out hHSH.out h0)
    generalize ca.getD n 0 = z at *
    have hzb : (z == 0) = false := by simpa using h0
    generalize hul : up.length = U at *
    have HUL := Lib.hid hul
    clear hul
    unfold pp
    go_enter Try.func21, Try.ntmps21
    go_wp2
    go_ret
    exact ⟨ca, 0, rfl, by omega, HS.out, Only.refl _ _, HH.out⟩
end Go.Proofs.Ytddklpphcfgooaa
