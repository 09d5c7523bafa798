/-
  the contract of the crew's longest; the contracts of match.behind and of the crew's first; the contract of the crew's first; the contract of match.All; the contract of match.All: its walk; no condition beyond those that each theorem states.
-/
import Derived.Test.YtjfkppbfckgckaaG10
import Derived.Test.YtjfkppbfckgckaaG05
import Derived.Deep.Cut
import Derived.Test.YtjfkppbfckgckaaG03
import Derived.Test.YtjfkppbfckgckaaG09
set_option linter.unusedVariables false
set_option linter.unusedSimpArgs false
namespace Go.Proofs.Ytjfkppbfckgckaa
open Go.RowKit Go.Rb
attribute [local irreducible] Go.wpQuiet
set_option maxRecDepth 20000

theorem on_step {S : Nat → Prop} {w wr w' : World} {t mb : Nat} {v v' : Value} (on : Only S w wr) (h : TW wr w' t mb v v') (hs : ∀ q, TS t mb v q → S q ∨ w.heap.size ≤ q) : Only S w w' :=
  on.trans h.1 fun k hk hq => (hs k hq).elim id (fun h => absurd hk (by omega))
/-- What the outer loop is at, ahead of the k-th place. -/
structure LoopR (p : List Ins) (s : ByteArray) (k0 : Nat) (w wr : World) (B c : Nat) (A : Option Addr) (cp n : Nat) (N : Int) (S : Nat → Prop) (k : Nat) (r : Option Nat) (ta ma tb mb : Nat) (va vb : Value) (mka : List Int) (nowa : Int) (la : List Nat) (mkb : List Int) (nowb : Int) (lb : List Nat) : Prop where
  cr : Crew wr B c ta ma tb mb va vb A cp s n mka nowa la mkb nowb lb
  ln : la.length ≤ n
  ex : Exact p (rsL s) k0 k (Mrk mka nowa)
  ls : Lists p (Mrk mka nowa) la
  lt : LastTo p (rsL s) k0 k r
  ba : ∀ x ∈ mka, x ≤ nowa
  bb : ∀ x ∈ mkb, x ≤ nowb
  n0 : 0 ≤ nowa ∧ nowa ≤ N + 1 + (k : Int)
  n1 : 0 ≤ nowb ∧ nowb ≤ N + 1 + (k : Int)
  on : Only S w wr
  cs : ∀ q, CS c ta ma tb mb va vb q → S q ∨ w.heap.size ≤ q
  pr : PRd wr B A p
/-- What the inner loop is at, ahead of the j-th thread. -/
structure InnerR (p : List Ins) (s : ByteArray) (k0 : Nat) (w wi : World) (B c : Nat) (A : Option Addr) (cp n : Nat) (S : Nat → Prop) (k j : Nat) (ta ma tb mb : Nat) (va vb : Value) (mka : List Int) (nowa : Int) (la : List Nat) (mkb : List Int) (nowb : Int) (lb : List Nat) : Prop where
  cr : Crew wi B c ta ma tb mb va vb A cp s n mka nowa la mkb nowb lb
  lev : Lev p (rsL s) k0 k la j (Mrk mkb nowb) lb
  cn : lb.length + cnt mkb nowb ≤ n
  bb : ∀ x ∈ mkb, x ≤ nowb
  on : Only S w wi
  cs : ∀ q, CS c ta ma tb mb va vb q → S q ∨ w.heap.size ≤ q
  pr : PRd wi B A p
section
variable {p : List Ins} {s : ByteArray} {k0 : Nat} {w wi wr w' : World} {B c : Nat} {A : Option Addr} {cp n : Nat} {N : Int} {S : Nat → Prop} {k j : Nat} {ta ma tb mb : Nat} {va vb vb' : Value} {mka : List Int} {nowa : Int} {la : List Nat} {mkb mkb' : List Int} {nowb : Int} {lb lb' : List Nat} {r : Option Nat}
theorem InnerR.under (h : InnerR p s k0 w wi B c A cp n S k j ta ma tb mb va vb mka nowa la mkb nowb lb) (hb : Below wi.heap.size wi w') : InnerR p s k0 w w' B c A cp n S k j ta ma tb mb va vb mka nowa la mkb nowb lb :=
  ⟨h.cr.under hb, h.lev, h.cn, h.bb, h.on.trans (Only.of_below hb) (fun q hq hge => absurd hq (by have := h.on.size; omega)), h.cs, h.pr.below (hb.mono (Nat.le_trans h.cr.cB (Nat.le_of_lt h.cr.cb.lt)))⟩
theorem InnerR.al (h : InnerR p s k0 w wi B c A cp n S k j ta ma tb mb va vb mka nowa la mkb nowb lb) (o : Obj) : InnerR p s k0 w (wi.alloc o) B c A cp n S k j ta ma tb mb va vb mka nowa la mkb nowb lb := h.under (below_al (Below.refl _ _) _)
theorem InnerR.skip {i : Nat} (h : InnerR p s k0 w wi B c A cp n S k j ta ma tb mb va vb mka nowa la mkb nowb lb) (hi : la[j]? = some i) (hn : nxt p (rsL s) k i = []) : InnerR p s k0 w wi B c A cp n S k (j + 1) ta ma tb mb va vb mka nowa la mkb nowb lb :=
  ⟨h.cr, h.lev.skip hi hn, h.cn, h.bb, h.on, h.cs, h.pr⟩
/-- A put into the second list. -/
theorem InnerR.onB (h : InnerR p s k0 w wi B c A cp n S k j ta ma tb mb va vb mka nowa la mkb nowb lb) {i y : Nat} (hT : Th w' B tb mb vb' n mkb' nowb lb') (hp : PutR p (rsL s).length (k + 1) (Mrk mkb nowb) lb y (Mrk mkb' nowb) lb') (hw : TW wi w' tb mb vb vb') (hc : lb'.length + cnt mkb' nowb ≤ lb.length + cnt mkb nowb) (hm : ∀ x ∈ mkb', x = nowb ∨ x ∈ mkb)
    (hi : la[j]? = some i) (hr : Reach p (rsL s) k0 i k) (hn : nxt p (rsL s) k i = [y]) : InnerR p s k0 w w' B c A cp n S k (j + 1) ta ma tb mb va vb' mka nowa la mkb' nowb lb' := by
  refine ⟨h.cr.onB hT hw, h.lev.put hi hr hn hp, by have := h.cn; omega, fun x hx => ?_, on_step h.on hw (fun q hq => h.cs q (.inr (.inr hq))), fun q hq => ?_, h.pr.below (hw.below h.cr.b)⟩
  · rcases hm x hx with rfl | h1
    · exact Int.le_refl _
    · exact h.bb x h1
  · rcases hq with h1 | h1 | (h1 | h1 | h1)
    · exact h.cs q (.inl h1)
    · exact h.cs q (.inr (.inl h1))
    · exact h.cs q (.inr (.inr (.inl h1)))
    · exact h.cs q (.inr (.inr (.inr (.inl h1))))
    · rcases hw.2 q h1 with h2 | h2
      · exact h.cs q (.inr (.inr (.inr (.inr h2))))
      · exact .inr (Nat.le_trans h.on.size h2)
theorem InnerR.put_call (h : InnerR p s k0 w wi B c A cp n S k j ta ma tb mb va vb mka nowa la mkb nowb lb) (hn : p.length = n) (hn2 : n ≤ 2000) (hok : RightI p) {m : Nat} (hm : (rsL s).length = m) {at_ : Nat} (h0 : at_ = 0 ↔ k + 1 = 0) (h1 : at_ = s.size ↔ k + 1 = m) (ha : at_ ≤ 1000) (hs : s.size ≤ 800) (hcp : n ≤ cp) {y : Nat} (hy : y < n) :
    Calls Try.prog 43 #[.pointer (some ⟨c, 0, none⟩), .pointer (some ⟨tb, 0, none⟩), .int .i64 (y : Int), .int .i64 (at_ : Int)] wi fun e w' => e = .returned (.tuple #[]) ∧ ∃ vb' mkb' lb', ∀ {i : Nat}, la[j]? = some i → Reach p (rsL s) k0 i k → nxt p (rsL s) k i = [y] → InnerR p s k0 w w' B c A cp n S k (j + 1) ta ma tb mb va vb' mka nowa la mkb' nowb lb' := by
  refine (cput_any (m := m) (k := k + 1) hn hn2 hok h0 h1 ha (by omega) hcp B c tb mb nowb _ _ (cnt mkb nowb) wi vb mkb lb y (Nat.le_refl _) h.cn hy h.cr.b h.cr.cb h.pr).mono ?_
  rintro e w' ⟨rfl, v', mk', l', g1, g2, g3, g4, g5, g6⟩
  refine ⟨rfl, v', mk', l', fun hi hr hn => ?_⟩
  subst hm
  exact h.onB g1 g2 g3 g4 g6 hi hr hn
theorem InnerR.exact_ {L : Nat} (h : InnerR p s k0 w wi B c A cp n S k L ta ma tb mb va vb mka nowa la mkb nowb lb) (hL : la.length = L) (hk : k0 ≤ k) (he : Exact p (rsL s) k0 k (Mrk mka nowa)) (hl : Lists p (Mrk mka nowa) la) : Exact p (rsL s) k0 (k + 1) (Mrk mkb nowb) := by
  subst hL
  exact h.lev.exact hk he hl
theorem InnerR.fin (h : InnerR p s k0 w wi B c A cp n S k j ta ma tb mb va vb mka nowa la mkb (nowb + 1) lb) (ba : ∀ x ∈ mka, x ≤ nowa) (n0 : 0 ≤ nowa ∧ nowa ≤ N + 1 + (k : Int)) (n1 : 0 ≤ nowb ∧ nowb ≤ N + 1 + (k : Int)) (hk : (k : Int) ≤ 800) :
    ∃ S', CrewS wi B c A cp s n (N + 1000) S' ∧ Only S w wi ∧ ∀ q, S' q → S q ∨ w.heap.size ≤ q :=
  ⟨CS c ta ma tb mb va vb, ⟨ta, ma, tb, mb, va, vb, mka, nowa, la, mkb, nowb + 1, lb, h.cr, ba, h.bb, n0.1, by omega, by omega, by omega, fun q => Iff.rfl⟩, h.on, h.cs⟩
theorem InnerR.next (h : InnerR p s k0 w wi B c A cp n S k j ta ma tb mb va vb mka nowa la mkb (nowb + 1) lb) (he : Exact p (rsL s) k0 (k + 1) (Mrk mkb (nowb + 1))) (hl : LastTo p (rsL s) k0 (k + 1) r) (ba : ∀ x ∈ mka, x ≤ nowa) (n0 : 0 ≤ nowa ∧ nowa ≤ N + 1 + (k : Int)) (n1 : 0 ≤ nowb ∧ nowb ≤ N + 1 + (k : Int)) :
    LoopR p s k0 w ((wi.setCell ⟨c, 2, none⟩ (.pointer (some ⟨tb, 0, none⟩))).setCell ⟨c, 3, none⟩ (.pointer (some ⟨ta, 0, none⟩))).drew B c A cp n N S (k + 1) r tb mb ta ma vb va mkb (nowb + 1) lb mka nowa la := by
  have hc := h.cs c (.inl rfl)
  have hcB := h.cr.cB
  refine ⟨h.cr.swap.under (Below.refl _ _).drew, by have := h.cn; omega, he, h.lev.lst, hl, h.bb, ba, ⟨by omega, by push_cast; omega⟩, ⟨n0.1, by push_cast; omega⟩, ?_, fun q hq => ?_, ?_⟩
  · exact ((h.on.setCell (p := ⟨c, 2, none⟩) (fun hk => hc.elim id (fun h => absurd hk (by simp only; omega))) _).setCell (p := ⟨c, 3, none⟩) (fun hk => hc.elim id (fun h => absurd hk (by simp only; omega))) _).drew
  · rcases hq with h1 | h1 | h1
    · exact h.cs q (.inl h1)
    · exact h.cs q (.inr (.inr h1))
    · exact h.cs q (.inr (.inl h1))
  · exact h.pr.below ((((Below.refl B wi).setCell (p := ⟨c, 2, none⟩) hcB _).setCell (p := ⟨c, 3, none⟩) hcB _).drew)
end
set_option maxHeartbeats 8000000 in
theorem longest_any {p : List Ins} {n : Nat} (hn : p.length = n) (hn0 : 0 < n) (hn2 : n ≤ 2000) (hok : RightI p) (hset : ∀ (i : Nat) (t : Ins), p[i]? = some t → t.set.length ≤ 1000) {s : ByteArray} (hs8 : s.size ≤ 800) {A : Option Addr} {cp : Nat} (hcp : n ≤ cp) {B c : Nat} {N : Int} {S : Nat → Prop} (k0 : Nat) (hk0 : k0 ≤ (decT s).length) (w : World)
    (hC : CrewS w B c A cp s n N S) (hN : N ≤ 100000000) (hP : PRd w B A p) :
    Calls Try.prog 30 #[.pointer (some ⟨c, 0, none⟩), .int .i64 (AtF (decT s) k0 : Int)] w fun e w' => ∃ o, IsLast p (rsL s) k0 o ∧ e = .returned (endV s o) ∧ ∃ S', CrewS w' B c A cp s n (N + 1000) S' ∧ Only S w w' ∧ ∀ q, S' q → S q ∨ w.heap.size ≤ q := by
  obtain ⟨ta, ma, tb, mb, va, vb, mka, nowa, la, mkb, nowb, lb, hcr, hba, hbb, hn00, hn01, hn10, hn11, hS⟩ := hC
  obtain ⟨m, hm⟩ : ∃ m, (decT s).length = m := ⟨_, rfl⟩
  have hml := decT_len s
  have hrl : (rsL s).length = m := by rw [rsL, List.length_map, hm]
  have HRL := Lib.hid hrl
  have HM := Lib.hid hm
  have HML : Hid (m ≤ 800) := by show _ ≤ _; omega
  have hA0 : ∀ k, k ≤ m → (AtF (decT s) k = 0 ↔ k = 0) := fun k hk => ⟨fun h => AtF_inj s (by omega) (by omega) (by rw [h, AtF_zero]), fun h => by rw [h, AtF_zero]⟩
  have hAm : ∀ k, k ≤ m → (AtF (decT s) k = s.size ↔ k = m) := fun k hk => ⟨fun h => AtF_inj s (by omega) (by omega) (by rw [h, ← hm, decT_end]), fun h => by rw [h, ← hm, decT_end]⟩
  have hAs : ∀ k, k ≤ m → AtF (decT s) k ≤ s.size := fun k hk => AtF_size s k (by omega)
  rw [hm] at hk0 hml
  have HA0 := Lib.hid hA0
  have HAM := Lib.hid hAm
  have HAS := Lib.hid hAs
  have HN := Lib.hid hn
  have HOK := Lib.hid hok
  have HSET := Lib.hid hset
  have HCR := Lib.hid hcr
  have HP := Lib.hid hP
  have HS := Lib.hid hS
  have HBA := Lib.hid hba
  have HBB := Lib.hid hbb
  have HCLR := Lib.hid (clear_any hcr.a hn00 (by omega))
  have y2 := hcr.cb.cell 2
  have hcl := hcr.cb.lt
  simp only [List.getElem?_toArray, List.getElem?_cons_succ, List.getElem?_cons_zero] at y2
  have ha0 := hAs k0 hk0
  obtain ⟨a0, hat⟩ : ∃ a0, AtF (decT s) k0 = a0 := ⟨_, rfl⟩
  have HAT := Lib.hid hat
  rw [hat] at ha0 ⊢
  clear hm hA0 hAm hAs hn hok hset hcr hP hS hba hbb hrl hat
  go_enter Try.func30, Try.ntmps30
  go_wp2_with fail
  refine HCLR.out.mono ?_
  rintro e1 w1 ⟨rfl, va1, hTa, hWa⟩
  have hcr1 := HCR.out.onA hTa hWa
  have hP1 := HP.out.below (hWa.below HCR.out.a)
  have HPUT := Lib.hid (cput_any (m := m) (k := k0) (at_ := a0) HN.out hn2 HOK.out (by rw [← HAT.out]; exact HA0.out k0 hk0) (by rw [← HAT.out]; exact HAM.out k0 hk0) (by omega) (by omega) hcp B c ta ma (nowa + 1) _ _ (cnt mka (nowa + 1)) w1 va1 mka [] 0 (Nat.le_refl _) (by have := cnt_le mka (nowa + 1); rw [hTa.ml] at this; simpa using this) hn0 hTa hcr1.cb hP1)
  have q2 := hcr1.cb.cell 2
  have hcl1 := hcr1.cb.lt
  simp only [List.getElem?_toArray, List.getElem?_cons_succ, List.getElem?_cons_zero] at q2
  have HCR1 := Lib.hid hcr1
  have HWA := Lib.hid hWa
  have HP1 := Lib.hid hP1
  clear hTa hWa hcr1 hP1 HCLR y2
  go_wp2_with fail
  refine HPUT.out.mono ?_
  rintro e2 w2 ⟨rfl, va2, mka2, la2, hT2, hR2, hW2, hl2, -, hm2⟩
  rw [mrk_none HBA.out] at hR2
  have HLR0 : Hid (LoopR p s k0 w w2 B c A cp n N S k0 none ta ma tb mb va2 vb mka2 (nowa + 1) la2 mkb nowb lb) := by
    have hw12 := HWA.out.trans hW2
    have hcs : ∀ q, CS c ta ma tb mb va vb q → S q ∨ w.heap.size ≤ q := fun q hq => .inl ((HS.out q).2 hq)
    refine ⟨HCR1.out.onA hT2 hW2, by have := cnt_le mka (nowa + 1); rw [HCR.out.a.ml] at this; simp only [List.length_nil] at hl2; omega, ?_, hR2.lists (lists_nil p), lastTo_start, fun x hx => ?_, HBB.out, ⟨by omega, by omega⟩, ⟨hn10, by omega⟩, on_step (Only.refl S w) hw12 (fun q hq => hcs q (.inr (.inl hq))), fun q hq => ?_, HP1.out.below (hW2.below HCR1.out.a)⟩
    · have h := hR2
      rw [← HRL.out] at h
      exact exact_start h
    · rcases hm2 x hx with h | h
      · omega
      · have := HBA.out x h; omega
    · rcases hq with h1 | (h1 | h1 | h1) | h1
      · exact hcs q (.inl h1)
      · exact hcs q (.inr (.inl (.inl h1)))
      · exact hcs q (.inr (.inl (.inr (.inl h1))))
      · rcases hw12.2 q h1 with h2 | h2
        · exact hcs q (.inr (.inl (.inr (.inr h2))))
        · exact .inr h2
      · exact hcs q (.inr (.inr h1))
  clear hT2 hR2 hW2 hl2 hm2 HPUT HCR1 HWA HP1 q2 hcl1 hcl
  go_wp2_with fail
  go_loopw [1, 5] (fun v1 v5 wr => ∃ (k : Nat) (r : Option Nat) (ta ma tb mb : Nat) (va vb : Value) (mka : List Int) (nowa : Int) (la : List Nat) (mkb : List Int) (nowb : Int) (lb : List Nat) (a : Nat), v1 = .int .i64 (a : Int) ∧ v5 = endV s r ∧ k0 ≤ k ∧ k ≤ m ∧ Hid (a = AtF (decT s) k) ∧ Hid (LoopR p s k0 w wr B c A cp n N S k r ta ma tb mb va vb mka nowa la mkb nowb lb)) (fun v1 _ _ => s.size + 1 - (intOf v1).toNat)
  case atStart => exact ⟨k0, none, ta, ma, tb, mb, va2, vb, mka2, nowa + 1, la2, mkb, nowb, lb, a0, rfl, rfl, Nat.le_refl _, hk0, HAT.out.symm, HLR0.out⟩
  case round =>
  clear HLR0 HCR HBA HBB hn00 hn01 hn10 hn11 HS
  obtain ⟨k, r, ta, ma, tb, mb, va, vb, mka, nowa, la, mkb, nowb, lb, a, rfl, rfl, hkk, hkm, HAK, HLR⟩ := hrel
  have HK0 := Lib.hid hkk
  have HKM := Lib.hid hkm
  obtain ⟨Av, cv, rfl, -, -⟩ := HLR.out.cr.a.own.len_
  obtain ⟨L, hL⟩ : ∃ L, la.length = L := ⟨_, rfl⟩
  have HLL := Lib.hid hL
  have hL2000 : L ≤ 2000 := by have := HLR.out.ln; omega
  have has : a ≤ s.size := by rw [HAK.out]; exact HAS.out k hkm
  have y1 := HLR.out.cr.cb.cell 1
  have y3 := HLR.out.cr.cb.cell 3
  have hcl := HLR.out.cr.cb.lt
  simp only [List.getElem?_toArray, List.getElem?_cons_succ, List.getElem?_cons_zero] at y1 y3
  have HCLR := Lib.hid (fun W (hW : Below wr.heap.size wr W) => clear_any (HLR.out.cr.under hW).b HLR.out.n1.1 (by have := HLR.out.n1.2; have := HML.out; omega))
  by_cases hkl : k < m
  · obtain ⟨t, ht⟩ : ∃ t, (decT s)[k]? = some t := ⟨_, List.getElem?_eq_getElem (by rw [HM.out]; exact hkl)⟩
    obtain ⟨h1, h2, h3⟩ := decT_at s k t ht
    have h4 := AtF_succ _ _ _ ht
    have hrk : (rsL s)[k]? = some t.1 := by rw [rsL, List.getElem?_map, ht]; rfl
    rw [← HAK.out] at h1 h3 h4
    have HPT := Lib.hid (point_any s a wr (by omega) has)
    rw [h1] at HPT
    obtain ⟨rv, nn⟩ := t
    simp only at h1 h2 h3 h4 HPT hrk
    have HRK := Lib.hid hrk
    have H4 : Hid (a + nn = AtF (decT s) (k + 1)) := h4.symm
    have HAT0 : Hid (a + nn = 0 ↔ k + 1 = 0) := by rw [H4.out]; exact HA0.out (k + 1) hkl
    have HATM : Hid (a + nn = s.size ↔ k + 1 = m) := by rw [H4.out]; exact HAM.out (k + 1) hkl
    have HSM : Hid ((rsL s).length = m) := HRL.out
    have hlt : a < s.size := by omega
    clear h1 h4 ht hrk
    go_wp2_with fail
    refine HPT.out.mono ?_
    rintro e3 w3 ⟨rfl, hb3⟩
    have hcr3 := HLR.out.cr.under hb3
    have z3 := hcr3.cb.cell 3
    have hcl3 := hcr3.cb.lt
    simp only [List.getElem?_toArray, List.getElem?_cons_succ, List.getElem?_cons_zero] at z3
    have HC3 := Lib.hid (HCLR.out w3 hb3)
    have HCR3 := Lib.hid hcr3
    have HB3 := Lib.hid hb3
    clear hcr3 hb3 HPT HCLR y1 y3
    go_wp2_with fail
    refine HC3.out.mono ?_
    rintro e4 w4 ⟨rfl, vb1, hTb, hWb⟩
    have HI0 : Hid (InnerR p s k0 w w4 B c A cp n S k 0 ta ma tb mb (.slice Av la.length cv) vb1 mka nowa la mkb (nowb + 1) []) := by
      have hmn := mrk_none HLR.out.bb
      have hon3 : Only S w _ := HLR.out.on.trans (Only.of_below HB3.out) (fun q hq hge => absurd hq (by have := HLR.out.on.size; omega))
      refine ⟨HCR3.out.onB hTb hWb, by rw [hmn]; exact Lev.start _ _ _ _ _, by have := cnt_le mkb (nowb + 1); rw [hTb.ml] at this; simpa using this, fun x hx => by have := HLR.out.bb x hx; omega, on_step hon3 hWb (fun q hq => HLR.out.cs q (.inr (.inr hq))), fun q hq => ?_, (HLR.out.pr.below (HB3.out.mono (Nat.le_trans HLR.out.cr.cB (Nat.le_of_lt HLR.out.cr.cb.lt)))).below (hWb.below HCR3.out.b)⟩
      rcases hq with h1 | h1 | (h1 | h1 | h1)
      · exact HLR.out.cs q (.inl h1)
      · exact HLR.out.cs q (.inr (.inl h1))
      · exact HLR.out.cs q (.inr (.inr (.inl h1)))
      · exact HLR.out.cs q (.inr (.inr (.inr (.inl h1))))
      · rcases hWb.2 q h1 with h2 | h2
        · exact HLR.out.cs q (.inr (.inr (.inr (.inr h2))))
        · exact .inr (Nat.le_trans hon3.size h2)
    have hcb4 := HI0.out.cr.cb
    have v2 := hcb4.cell 2
    have hcl4 := hcb4.lt
    have ta0 := HI0.out.cr.a.blk.cell 0
    have htal := HI0.out.cr.a.blk.lt
    simp only [List.getElem?_toArray, List.getElem?_cons_succ, List.getElem?_cons_zero] at v2 ta0
    clear hcb4
    clear hTb hWb HC3 HCR3 HB3 z3
    go_wp2_with fail
    clear hL
    go_loopw [5, 52] (fun v5 v52 wi => ∃ (j : Nat) (vb' : Value) (mkb' : List Int) (lb' : List Nat) (r' : Option Nat), v52 = .int .i64 (j : Int) ∧ v5 = endV s r' ∧ j ≤ L ∧ Hid (r' = if (la.take j).any (isM p) = true then some k else r) ∧ Hid (InnerR p s k0 w wi B c A cp n S k j ta ma tb mb (.slice Av la.length cv) vb' mka nowa la mkb' (nowb + 1) lb')) (fun _ v52 _ => L - (intOf v52).toNat)
    case atStart => exact ⟨0, vb1, mkb, [], r, rfl, rfl, by omega, by simp [Hid], HI0.out⟩
    case round =>
    obtain ⟨j, vb2, mkb2, lb2, r2, rfl, rfl, hjL, HR2, HI⟩ := hrel
    have hcb := HI.out.cr.cb
    have u0 := hcb.cell 0
    have u2 := hcb.cell 2
    have u3 := hcb.cell 3
    have hcl := hcb.lt
    simp only [List.getElem?_toArray, List.getElem?_cons_succ, List.getElem?_cons_zero] at u0 u2 u3
    clear hcb
    by_cases hjl : j < L
    · have hcl2 : j < la.length := by rw [HLL.out]; exact hjl
      obtain ⟨i, hij⟩ : ∃ i, la[j]? = some i := ⟨_, List.getElem?_eq_getElem hcl2⟩
      have hMi := (HLR.out.ls i).1 (List.mem_of_getElem? hij)
      have hri := (HLR.out.ex i).1 hMi.1
      obtain ⟨pt, hpi, hs2, hs3, hs4⟩ := hMi.2
      have hoki := HOK.out i pt hpi
      have hsl := HSET.out i pt hpi
      have hin : i < n := by rw [← HN.out]; exact (List.getElem?_eq_some_iff.1 hpi).1
      obtain ⟨gb, go, hla, hgl, hgc⟩ := (Own.rd HI.out.cr.a.own).2 (by omega)
      have hAv : Av = some ⟨gb, go, none⟩ := hla
      have c1 := hgc j (by omega)
      rw [List.getElem?_map, hij] at c1
      simp only [Option.map_some] at c1
      obtain ⟨b, off, hA, hb, hcell⟩ := HI.out.pr (fun e => by rw [e] at hpi; simp at hpi)
      obtain ⟨A1, cc1, hcc1, hrg, d0, d1, d2, d3⟩ := hcell i pt hpi
      obtain ⟨top, tset, tx, ty⟩ := pt
      simp only at d0 d1 d2 d3 hoki hrg hcc1 hs2 hs3 hs4 hsl
      have hbw : b < wr.heap.size := Nat.lt_of_lt_of_le hb (Nat.le_trans HI.out.cr.cB (Nat.le_of_lt hcl))
      have HIJ := Lib.hid hij
      have HRI := Lib.hid hri
      have HPI := Lib.hid hpi
      have HOKI := Lib.hid hoki
      have HRG := Lib.hid hrg
      have hBw : B ≤ wr.heap.size := Nat.le_trans HI.out.cr.cB (Nat.le_of_lt hcl)
      subst hAv
      obtain ⟨wb, hwb⟩ : ∃ wb, wr = wb := ⟨_, rfl⟩
      clear hij hMi hri hpi hcl2 hcell hrg hla hgc
      by_cases o0 : top = 0
      · subst o0
        have HM1 : Hid ((if (la.take (j + 1)).any (isM p) = true then some k else r) = some k) := by
          have h1 : isM p i = true := isM_iff.2 ⟨_, HPI.out, rfl⟩
          have h2 : (la.take (j + 1)).any (isM p) = true := by rw [List.take_add_one, HIJ.out, List.any_append]; simp [h1]
          show _ = _
          rw [if_pos h2]
        have HNX : Hid (nxt p (rsL s) k i = []) := by
          show _ = _
          unfold nxt
          rw [HPI.out]
          simp
        have HI2 := Lib.hid ((HI.out.skip HIJ.out HNX.out).al (.cells #[.int .i64 0, .slice A1 tset.length cc1, .int .i64 tx, .int .i64 ty] 48))
        subst hA
        subst hwb
        go_wp2_with fail
        go_roundw
        case rel => exact ⟨j + 1, _, _, _, some k, by go_num, by rw [endV, ← HAK.out], by omega, HM1.out.symm, HI2.out⟩
        case measure => simp [intOf] <;> omega
      have O0 : (top == 0) = false := by simpa using o0
      have o1 : top = 1 := by have := HOKI.out; omega
      subst o1
      have HM1 : Hid (r2 = if (la.take (j + 1)).any (isM p) = true then some k else r) := by
        have h1 : isM p i = false := by
          cases h : isM p i with
          | false => rfl
          | true =>
            obtain ⟨t', ht', h0⟩ := isM_iff.1 h
            rw [HPI.out] at ht'
            obtain rfl := Option.some.inj ht'
            simp at h0
        have h2 : (la.take (j + 1)).any (isM p) = (la.take j).any (isM p) := by rw [List.take_add_one, HIJ.out, List.any_append]; simp [h1]
        show _ = _
        rw [HR2.out, h2]
      have HX1 := HOKI.out.2.2.1 (by decide)
      obtain ⟨X, hX⟩ : ∃ X : Nat, tx = (X : Int) := ⟨tx.toNat, by omega⟩
      subst hX
      have hXn : X < n := by have := HN.out; omega
      have hba := below_al (Below.refl wb.heap.size wb) (.cells #[.int .i64 1, .slice A1 tset.length cc1, .int .i64 (X : Int), .int .i64 ty] 48)
      have hrg2 : RgR (wb.alloc (.cells #[.int .i64 1, .slice A1 tset.length cc1, .int .i64 (X : Int), .int .i64 ty] 48)) B A1 tset := by
        have := HRG.out
        rw [hwb] at this
        exact this.below (hba.mono (by rw [← hwb]; exact hBw))
      have HHAS := Lib.hid (setHas_any tset rv A1 tset.length cc1 B _ hrg2 (Nat.le_trans (by rw [← hwb]; exact hBw) hba.size) rfl hsl hcc1)
      have HNX : Hid (nxt p (rsL s) k i = if hasS tset rv = true then [X] else []) := by
        show _ = _
        unfold nxt
        rw [HPI.out]
        simp [HRK.out]
      obtain ⟨H, hH⟩ : ∃ H, hasS tset rv = H := ⟨_, rfl⟩
      rw [hH] at HHAS HNX
      clear hrg2 hba hH
      subst hA
      subst hwb
      go_wp2_with fail
      refine HHAS.out.mono ?_
      rintro e5 w5 ⟨rfl, hb5⟩
      have hab := below_trans (below_al (Below.refl wr.heap.size wr) (.cells #[.int .i64 1, .slice A1 tset.length cc1, .int .i64 (X : Int), .int .i64 ty] 48)) hb5
      have HI5 := Lib.hid (HI.out.under hab)
      have hxb5 := (Blk.new wr 48 #[.int .i64 1, .slice A1 tset.length cc1, .int .i64 (X : Int), .int .i64 ty]).below hb5 (by simp)
      have HXB5 := Lib.hid hxb5
      clear hb5 hab HHAS
      cases H with
      | false =>
        have HI6 := Lib.hid (HI5.out.skip HIJ.out (by rw [HNX.out]; rfl))
        clear hxb5
        go_wp2_with fail
        go_roundw
        case rel => exact ⟨j + 1, _, _, _, r2, by go_num, rfl, by omega, HM1.out, HI6.out⟩
        case measure => simp [intOf] <;> omega
      | true =>
        have HCALL := Lib.hid (fun W (hW : Below w5.heap.size w5 W) => (HI5.out.under hW).put_call HN.out hn2 HOK.out HSM.out HAT0.out HATM.out (by omega) hs8 hcp hXn)
        have hcb5 := HI5.out.cr.cb
        have hcl5 : c < w5.drew.heap.size := hcb5.lt
        have u3 : w5.drew.cell? ⟨c, 3, none⟩ = _ := hcb5.cell 3
        have hxl5 : wr.heap.size < w5.drew.heap.size := hxb5.lt
        have x2 : w5.drew.cell? ⟨wr.heap.size, 2, none⟩ = _ := hxb5.cell 2
        simp only [List.getElem?_toArray, List.getElem?_cons_succ, List.getElem?_cons_zero] at u3 x2
        have HWR : Hid (IntKind.i64.wrap ((a : Int) + (nn : Int)) = (a : Int) + (nn : Int)) := by show _ = _; rw [IntKind.wrap_i64]; omega
        clear hcb5 hxb5 u0 u2
        go_upto_region 15 with fail
        refine region_tail 10 (by kernel_rfl) (by kernel_rfl) (fun W W' => Below W.heap.size W W')
          [.val (.pointer (some ⟨c, 0, none⟩)),
           .val (.pointer (some ⟨c, 0, none⟩)),
           .val (.pointer (some ⟨c, 0, none⟩)),
           .val (.pointer (some ⟨c, 3, none⟩)),
           .val (.pointer (some ⟨tb, 0, none⟩)),
           .val (.pointer (some ⟨wr.heap.size, 2, none⟩)),
           .val (.int .i64 (X : Int)),
           .val (.int .i64 (a : Int)),
           .val (.int .i64 (nn : Int)),
           .val (.int .i64 ((a : Int) + (nn : Int)))]
          (fun W => Below.refl _ W) (fun _ _ _ h k => below_trans h k) (by kernel_rfl) ?_ ?_
        · refine ⟨?_, ?_, ?_, ?_, ?_, ?_, ?_, ?_, ?_, ?_, trivial⟩
          · intro ra RW hR hk hd K hK
            obtain ⟨e0, g0⟩ := hk 0 (.pointer (some ⟨c, 0, none⟩)) (by kernel_rfl) rfl
            clear hk hd
            have HR := Lib.hid hR
            clear hR
            go_simp
            exact hK _ _ (Below.refl _ _) rfl
          · intro ra RW hR hk hd K hK
            obtain ⟨e0, g0⟩ := hk 0 (.pointer (some ⟨c, 0, none⟩)) (by kernel_rfl) rfl
            clear hk hd
            have HR := Lib.hid hR
            clear hR
            go_simp
            exact hK _ _ (Below.refl _ _) rfl
          · intro ra RW hR hk hd K hK
            obtain ⟨v76, e76, g76, f76⟩ := hd 1 76 (by kernel_rfl) rfl
            have f76 : v76 = .pointer (some ⟨c, 0, none⟩) := f76
            subst f76
            clear hk hd
            have HR := Lib.hid hR
            clear hR
            go_simp
            exact hK _ _ (Below.refl _ _) rfl
          · intro ra RW hR hk hd K hK
            obtain ⟨v77, e77, g77, f77⟩ := hd 2 77 (by kernel_rfl) rfl
            have f77 : v77 = .pointer (some ⟨c, 0, none⟩) := f77
            subst f77
            clear hk hd
            have HR := Lib.hid hR
            clear hR
            go_simp
            exact hK _ _ (Below.refl _ _) rfl
          · intro ra RW hR hk hd K hK
            obtain ⟨v78, e78, g78, f78⟩ := hd 3 78 (by kernel_rfl) rfl
            have f78 : v78 = .pointer (some ⟨c, 3, none⟩) := f78
            subst f78
            clear hk hd
            have HR := Lib.hid hR
            clear hR
            have dd0 := (HR.out.cell (p := ⟨c, 3, none⟩) hcl5).trans u3
            go_simp
            exact hK _ _ (Below.refl _ _) rfl
          · intro ra RW hR hk hd K hK
            obtain ⟨e10, g10⟩ := hk 10 (.pointer (some ⟨wr.heap.size, 0, none⟩)) (by kernel_rfl) rfl
            clear hk hd
            have HR := Lib.hid hR
            clear hR
            go_simp
            exact hK _ _ (Below.refl _ _) rfl
          · intro ra RW hR hk hd K hK
            obtain ⟨v80, e80, g80, f80⟩ := hd 5 80 (by kernel_rfl) rfl
            have f80 : v80 = .pointer (some ⟨wr.heap.size, 2, none⟩) := f80
            subst f80
            clear hk hd
            have HR := Lib.hid hR
            clear hR
            have dd0 := (HR.out.cell (p := ⟨wr.heap.size, 2, none⟩) hxl5).trans x2
            go_simp
            exact hK _ _ (Below.refl _ _) rfl
          · intro ra RW hR hk hd K hK
            obtain ⟨e1, g1⟩ := hk 1 (.int .i64 (a : Int)) (by kernel_rfl) rfl
            clear hk hd
            have HR := Lib.hid hR
            clear hR
            go_simp
            exact hK _ _ (Below.refl _ _) rfl
          · intro ra RW hR hk hd K hK
            obtain ⟨e7, g7⟩ := hk 7 (.int .i64 (nn : Int)) (by kernel_rfl) rfl
            clear hk hd
            have HR := Lib.hid hR
            clear hR
            go_simp
            exact hK _ _ (Below.refl _ _) rfl
          · intro ra RW hR hk hd K hK
            obtain ⟨v82, e82, g82, f82⟩ := hd 7 82 (by kernel_rfl) rfl
            have f82 : v82 = .int .i64 (a : Int) := f82
            subst f82
            obtain ⟨v83, e83, g83, f83⟩ := hd 8 83 (by kernel_rfl) rfl
            have f83 : v83 = .int .i64 (nn : Int) := f83
            subst f83
            clear hk hd
            have HR := Lib.hid hR
            clear hR
            go_simp
            have hwr := HWR.out
            rw [hwr]
            exact hK _ _ (Below.refl _ _) rfl
        intro vs RW hR hF
        have q0 : vs 0 = .pointer (some ⟨c, 0, none⟩) := hF 0 (by decide)
        have q1 : vs 1 = .pointer (some ⟨c, 0, none⟩) := hF 1 (by decide)
        have q2 : vs 2 = .pointer (some ⟨c, 0, none⟩) := hF 2 (by decide)
        have q3 : vs 3 = .pointer (some ⟨c, 3, none⟩) := hF 3 (by decide)
        have q4 : vs 4 = .pointer (some ⟨tb, 0, none⟩) := hF 4 (by decide)
        have q5 : vs 5 = .pointer (some ⟨wr.heap.size, 2, none⟩) := hF 5 (by decide)
        have q6 : vs 6 = .int .i64 (X : Int) := hF 6 (by decide)
        have q7 : vs 7 = .int .i64 (a : Int) := hF 7 (by decide)
        have q8 : vs 8 = .int .i64 (nn : Int) := hF 8 (by decide)
        have q9 : vs 9 = .int .i64 ((a : Int) + (nn : Int)) := hF 9 (by decide)
        simp only [List.take_succ_cons, List.take_zero, List.drop_succ_cons, List.drop_zero, setAll, List.setIfInBounds_toArray, List.set_cons_zero, List.set_cons_succ, q0, q1, q2, q3, q4, q5, q6, q7, q8, q9]
        clear hF q0 q1 q2 q3 q4 q5 q6 q7 q8 q9
        clear vs
        have hbd : Below w5.heap.size w5 RW := ((Below.refl w5.heap.size w5).drew).trans hR
        have HCALL2 := Lib.hid (HCALL.out RW hbd)
        clear hR hbd HCALL
        go_wp2_with fail
        refine HCALL2.out.mono ?_
        rintro e6 w6 ⟨rfl, vb3, mkb3, lb3, hI6⟩
        have HI6 := Lib.hid (hI6 HIJ.out HRI.out (by rw [HNX.out]; rfl))
        clear hI6 HCALL2
        go_wp2_with fail
        go_roundw
        case rel => exact ⟨j + 1, vb3, mkb3, lb3, r2, by go_num, rfl, by omega, HM1.out, HI6.out⟩
        case measure => simp [intOf] <;> omega
    · obtain rfl : j = L := by omega
      have HE := Lib.hid (HI.out.exact_ HLL.out HK0.out HLR.out.ex HLR.out.ls)
      have HLT : Hid (LastTo p (rsL s) k0 (k + 1) r2) := by
        have := lastTo_list HLR.out.ex HLR.out.ls HLR.out.lt
        show LastTo _ _ _ _ _
        rw [HR2.out, List.take_of_length_le (by rw [HLL.out]; exact Nat.le_refl _)]
        exact this
      obtain ⟨Ab, cbb, rfl, -, -⟩ := HI.out.cr.b.own.len_
      have t0 := HI.out.cr.b.blk.cell 0
      have htbl := HI.out.cr.b.blk.lt
      simp only [List.getElem?_toArray, List.getElem?_cons_zero] at t0
      by_cases hemp : lb2.length = 0
      · have hl0 : lb2 = [] := List.eq_nil_of_length_eq_zero hemp
        subst hl0
        have HF : Hid (IsLast p (rsL s) k0 r2) := lastTo_end HK0.out HLT.out HE.out HI.out.lev.lst
        have HFC := Lib.hid (HI.out.fin HLR.out.ba HLR.out.n0 HLR.out.n1 (show (k : Int) ≤ 800 by have := HML.out; omega))
        cases r2 with
        | none =>
          unfold endV
          go_wp2_with fail
          go_returns
          exact ⟨none, HF.out, rfl, HFC.out⟩
        | some q =>
          unfold endV
          go_wp2_with fail
          go_returns
          exact ⟨some q, HF.out, rfl, HFC.out⟩
      · have hlb : ((lb2.length : Int) == 0) = false := by simpa using hemp
        have hcbz := HI.out.cr.cb
        have f2 := hcbz.frozen 2
        have f3 := hcbz.frozen 3
        have HLR2 := Lib.hid (HI.out.next HE.out HLT.out HLR.out.ba HLR.out.n0 HLR.out.n1)
        clear hcbz
        go_upto_region 19 with fail
        go_region
        go_wp2_with fail
        go_roundw
        case rel => exact ⟨k + 1, r2, tb, mb, ta, ma, _, _, mkb2, nowb + 1, lb2, mka, nowa, la, a + nn, by go_num, rfl, by have := HK0.out; omega, by have := HKM.out; omega, H4.out, HLR2.out⟩
        case measure => simp [intOf] <;> omega
  · have hke : k = m := by omega
    have HKE := Lib.hid hke
    have HRK : Hid ((rsL s)[k]? = none) := List.getElem?_eq_none (by rw [HRL.out]; omega)
    have hlt : a = s.size := by rw [HAK.out, hke]; exact (HAM.out m (Nat.le_refl _)).2 rfl
    have HLT0 := Lib.hid hlt
    have hlt2 : ¬ a < s.size := by omega
    clear hke hlt
    have HB3 : Hid (Below wr.heap.size wr wr) := Below.refl _ _
    have HCR3 := Lib.hid HLR.out.cr
    have HC3 := Lib.hid (HCLR.out wr (Below.refl _ _))
    clear HCLR
    go_wp2_with fail
    refine HC3.out.mono ?_
    rintro e4 w4 ⟨rfl, vb1, hTb, hWb⟩
    have HI0 : Hid (InnerR p s k0 w w4 B c A cp n S k 0 ta ma tb mb (.slice Av la.length cv) vb1 mka nowa la mkb (nowb + 1) []) := by
      have hmn := mrk_none HLR.out.bb
      have hon3 : Only S w _ := HLR.out.on.trans (Only.of_below HB3.out) (fun q hq hge => absurd hq (by have := HLR.out.on.size; omega))
      refine ⟨HCR3.out.onB hTb hWb, by rw [hmn]; exact Lev.start _ _ _ _ _, by have := cnt_le mkb (nowb + 1); rw [hTb.ml] at this; simpa using this, fun x hx => by have := HLR.out.bb x hx; omega, on_step hon3 hWb (fun q hq => HLR.out.cs q (.inr (.inr hq))), fun q hq => ?_, (HLR.out.pr.below (HB3.out.mono (Nat.le_trans HLR.out.cr.cB (Nat.le_of_lt HLR.out.cr.cb.lt)))).below (hWb.below HCR3.out.b)⟩
      rcases hq with h1 | h1 | (h1 | h1 | h1)
      · exact HLR.out.cs q (.inl h1)
      · exact HLR.out.cs q (.inr (.inl h1))
      · exact HLR.out.cs q (.inr (.inr (.inl h1)))
      · exact HLR.out.cs q (.inr (.inr (.inr (.inl h1))))
      · rcases hWb.2 q h1 with h2 | h2
        · exact HLR.out.cs q (.inr (.inr (.inr (.inr h2))))
        · exact .inr (Nat.le_trans hon3.size h2)
    have hcb4 := HI0.out.cr.cb
    have v2 := hcb4.cell 2
    have hcl4 := hcb4.lt
    have ta0 := HI0.out.cr.a.blk.cell 0
    have htal := HI0.out.cr.a.blk.lt
    simp only [List.getElem?_toArray, List.getElem?_cons_succ, List.getElem?_cons_zero] at v2 ta0
    clear hcb4
    clear hTb hWb HC3 HCR3 HB3
    go_wp2_with fail
    clear hL
    go_loopw [5, 52] (fun v5 v52 wi => ∃ (j : Nat) (vb' : Value) (mkb' : List Int) (lb' : List Nat) (r' : Option Nat), v52 = .int .i64 (j : Int) ∧ v5 = endV s r' ∧ j ≤ L ∧ Hid (r' = if (la.take j).any (isM p) = true then some k else r) ∧ Hid (InnerR p s k0 w wi B c A cp n S k j ta ma tb mb (.slice Av la.length cv) vb' mka nowa la mkb' (nowb + 1) lb')) (fun _ v52 _ => L - (intOf v52).toNat)
    case atStart => exact ⟨0, vb1, mkb, [], r, rfl, rfl, by omega, by simp [Hid], HI0.out⟩
    case round =>
    obtain ⟨j, vb2, mkb2, lb2, r2, rfl, rfl, hjL, HR2, HI⟩ := hrel
    have hcb := HI.out.cr.cb
    have u0 := hcb.cell 0
    have u2 := hcb.cell 2
    have u3 := hcb.cell 3
    have hcl := hcb.lt
    simp only [List.getElem?_toArray, List.getElem?_cons_succ, List.getElem?_cons_zero] at u0 u2 u3
    clear hcb
    by_cases hjl : j < L
    · have hcl2 : j < la.length := by rw [HLL.out]; exact hjl
      obtain ⟨i, hij⟩ : ∃ i, la[j]? = some i := ⟨_, List.getElem?_eq_getElem hcl2⟩
      have hMi := (HLR.out.ls i).1 (List.mem_of_getElem? hij)
      have hri := (HLR.out.ex i).1 hMi.1
      obtain ⟨pt, hpi, hs2, hs3, hs4⟩ := hMi.2
      have hoki := HOK.out i pt hpi
      have hsl := HSET.out i pt hpi
      have hin : i < n := by rw [← HN.out]; exact (List.getElem?_eq_some_iff.1 hpi).1
      obtain ⟨gb, go, hla, hgl, hgc⟩ := (Own.rd HI.out.cr.a.own).2 (by omega)
      have hAv : Av = some ⟨gb, go, none⟩ := hla
      have c1 := hgc j (by omega)
      rw [List.getElem?_map, hij] at c1
      simp only [Option.map_some] at c1
      obtain ⟨b, off, hA, hb, hcell⟩ := HI.out.pr (fun e => by rw [e] at hpi; simp at hpi)
      obtain ⟨A1, cc1, hcc1, hrg, d0, d1, d2, d3⟩ := hcell i pt hpi
      obtain ⟨top, tset, tx, ty⟩ := pt
      simp only at d0 d1 d2 d3 hoki hrg hcc1 hs2 hs3 hs4 hsl
      have hbw : b < wr.heap.size := Nat.lt_of_lt_of_le hb (Nat.le_trans HI.out.cr.cB (Nat.le_of_lt hcl))
      have HIJ := Lib.hid hij
      have HRI := Lib.hid hri
      have HPI := Lib.hid hpi
      have HOKI := Lib.hid hoki
      have HRG := Lib.hid hrg
      have hBw : B ≤ wr.heap.size := Nat.le_trans HI.out.cr.cB (Nat.le_of_lt hcl)
      subst hAv
      obtain ⟨wb, hwb⟩ : ∃ wb, wr = wb := ⟨_, rfl⟩
      clear hij hMi hri hpi hcl2 hcell hrg hla hgc
      by_cases o0 : top = 0
      · subst o0
        have HM1 : Hid ((if (la.take (j + 1)).any (isM p) = true then some k else r) = some k) := by
          have h1 : isM p i = true := isM_iff.2 ⟨_, HPI.out, rfl⟩
          have h2 : (la.take (j + 1)).any (isM p) = true := by rw [List.take_add_one, HIJ.out, List.any_append]; simp [h1]
          show _ = _
          rw [if_pos h2]
        have HNX : Hid (nxt p (rsL s) k i = []) := by
          show _ = _
          unfold nxt
          rw [HPI.out]
          simp
        have HI2 := Lib.hid ((HI.out.skip HIJ.out HNX.out).al (.cells #[.int .i64 0, .slice A1 tset.length cc1, .int .i64 tx, .int .i64 ty] 48))
        subst hA
        subst hwb
        go_wp2_with fail
        go_roundw
        case rel => exact ⟨j + 1, _, _, _, some k, by go_num, by rw [endV, ← HAK.out], by omega, HM1.out.symm, HI2.out⟩
        case measure => simp [intOf] <;> omega
      have O0 : (top == 0) = false := by simpa using o0
      have o1 : top = 1 := by have := HOKI.out; omega
      subst o1
      have HM1 : Hid (r2 = if (la.take (j + 1)).any (isM p) = true then some k else r) := by
        have h1 : isM p i = false := by
          cases h : isM p i with
          | false => rfl
          | true =>
            obtain ⟨t', ht', h0⟩ := isM_iff.1 h
            rw [HPI.out] at ht'
            obtain rfl := Option.some.inj ht'
            simp at h0
        have h2 : (la.take (j + 1)).any (isM p) = (la.take j).any (isM p) := by rw [List.take_add_one, HIJ.out, List.any_append]; simp [h1]
        show _ = _
        rw [HR2.out, h2]
      have HNX : Hid (nxt p (rsL s) k i = []) := by
        show _ = _
        unfold nxt
        rw [HPI.out]
        simp [HRK.out]
      have HI2 := Lib.hid ((HI.out.skip HIJ.out HNX.out).al (.cells #[.int .i64 1, .slice A1 tset.length cc1, .int .i64 tx, .int .i64 ty] 48))
      subst hA
      subst hwb
      go_wp2_with fail
      go_roundw
      case rel => exact ⟨j + 1, _, _, _, r2, by go_num, rfl, by omega, HM1.out, HI2.out⟩
      case measure => simp [intOf] <;> omega
    · obtain rfl : j = L := by omega
      have HE := Lib.hid (HI.out.exact_ HLL.out HK0.out HLR.out.ex HLR.out.ls)
      have HLT : Hid (LastTo p (rsL s) k0 (k + 1) r2) := by
        have := lastTo_list HLR.out.ex HLR.out.ls HLR.out.lt
        show LastTo _ _ _ _ _
        rw [HR2.out, List.take_of_length_le (by rw [HLL.out]; exact Nat.le_refl _)]
        exact this
      obtain ⟨Ab, cbb, rfl, -, -⟩ := HI.out.cr.b.own.len_
      have t0 := HI.out.cr.b.blk.cell 0
      have htbl := HI.out.cr.b.blk.lt
      simp only [List.getElem?_toArray, List.getElem?_cons_zero] at t0
      by_cases hemp : lb2.length = 0
      · have hl0 : lb2 = [] := List.eq_nil_of_length_eq_zero hemp
        subst hl0
        have HF : Hid (IsLast p (rsL s) k0 r2) := lastTo_end HK0.out HLT.out HE.out HI.out.lev.lst
        have HFC := Lib.hid (HI.out.fin HLR.out.ba HLR.out.n0 HLR.out.n1 (show (k : Int) ≤ 800 by have := HML.out; omega))
        cases r2 with
        | none =>
          unfold endV
          go_wp2_with fail
          go_returns
          exact ⟨none, HF.out, rfl, HFC.out⟩
        | some q =>
          unfold endV
          go_wp2_with fail
          go_returns
          exact ⟨some q, HF.out, rfl, HFC.out⟩
      · have hlb : ((lb2.length : Int) == 0) = false := by simpa using hemp
        exfalso
        refine hemp ?_
        have : lb2 = [] := by
          cases lb2 with
          | nil => rfl
          | cons y ys =>
            have h1 := ((HI.out.lev.lst y).1 (by simp)).1
            have h2 := reach_le (by rw [HRL.out]; exact Nat.le_trans HK0.out HKM.out) (HI.out.lev.snd y h1)
            rw [HRL.out] at h2
            have := HKE.out
            omega
        rw [this]; rfl
end Go.Proofs.Ytjfkppbfckgckaa
namespace Go.Proofs.Ytjfkppbfckgckaa
open Go.RowKit Go.Rb
attribute [local irreducible] Go.wpQuiet
set_option maxRecDepth 20000

/-- The places from the g-th on, in a slice that is read: all in block q. -/
structure PV (s : ByteArray) (w : World) (q : Nat) (A : Option Addr) (g len : Nat) : Prop where
  ln : len = (decT s).length + 1 - g
  gl : g ≤ (decT s).length + 1
  at_ : 0 < len → ∃ off, A = some ⟨q, off, none⟩ ∧ q < w.heap.size ∧ ∀ j, j < len → w.cell? ⟨q, off + j, none⟩ = some (.int .i64 (AtF (decT s) (g + j) : Int))
theorem PV.only {s : ByteArray} {w w' : World} {q : Nat} {A : Option Addr} {g len : Nat} {S : Nat → Prop} (h : PV s w q A g len) (ho : Only S w w') (hq : ¬ S q) : PV s w' q A g len :=
  ⟨h.ln, h.gl, fun h0 => by
    obtain ⟨off, hA, hl, hc⟩ := h.at_ h0
    exact ⟨off, hA, Nat.lt_of_lt_of_le hl ho.size, fun j hj => (ho.cell (p := ⟨q, off + j, none⟩) hl hq).trans (hc j hj)⟩⟩
theorem PV.under {s : ByteArray} {w w' : World} {q : Nat} {A : Option Addr} {g len : Nat} (h : PV s w q A g len) (hb : Below w.heap.size w w') : PV s w' q A g len :=
  ⟨h.ln, h.gl, fun h0 => by
    obtain ⟨off, hA, hl, hc⟩ := h.at_ h0
    exact ⟨off, hA, Nat.lt_of_lt_of_le hl hb.size, fun j hj => (hb.cell (p := ⟨q, off + j, none⟩) hl).trans (hc j hj)⟩⟩
theorem PV.tail {s : ByteArray} {w : World} {q : Nat} {A : Option Addr} {g len c : Nat} (h : PV s w q A g len) (h0 : 0 < len) (hc : len ≤ c) :
    ∃ A' c', (∀ W, (Instr.slice 38 (.slice A len c) (some (.int .i64 1)) none none).run Try.prog W = .ok (.slice A' (len - 1) c') W) ∧ PV s w q A' (g + 1) (len - 1) ∧ len - 1 ≤ c' := by
  obtain ⟨off, rfl, hl, hcell⟩ := h.at_ h0
  have hr : Rd w w.heap.size 1 (some ⟨q, off, none⟩) len ((List.range len).map fun j => Value.int .i64 (AtF (decT s) (g + j) : Int)) := by
    refine ⟨by simp, fun _ => ⟨q, off, rfl, hl, fun j hj => ?_⟩⟩
    have hj' : j < len := by omega
    rw [hcell j hj', List.getElem?_map, List.getElem?_range hj']
    rfl
  have hs : ∀ W, (sizeOf (Try.prog.elem 38)).run Try.prog W = .ok 1 W := fun W => by kernel_rfl
  have hrun : ∀ W, (Instr.slice 38 (.slice (some ⟨q, off, none⟩) len c) (some (.int .i64 1)) none none).run Try.prog W = .ok (sliced (some ⟨q, off, none⟩) 1 len c 1) W := fun W => by
    rw [run_slice_l (P := Try.prog) W 38 (some ⟨q, off, none⟩) len c Try.underlying38 .i64 1 (by omega) (by omega), hs W]
    simp [Result.andThen]
  refine ⟨_, c - 1, fun W => (hrun W).trans rfl, ⟨by have := h.ln; omega, by have := h.ln; omega, fun h1 => ⟨off + 1, ?_, hl, fun j hj => ?_⟩⟩, by omega⟩
  · rw [if_neg (by omega)]
    simp [Rb.add_plain]
  · rw [show off + 1 + j = off + (j + 1) by omega, hcell (j + 1) (by omega), show g + (j + 1) = g + 1 + j by omega]
/-- From where on places aren't below a number. -/
def IsFrom (s : ByteArray) (g : Nat) (z : Int) (g' : Nat) : Prop := g ≤ g' ∧ g' ≤ (decT s).length + 1 ∧ (∀ j, g ≤ j → j < g' → (AtF (decT s) j : Int) < z) ∧ (g' ≤ (decT s).length → z ≤ (AtF (decT s) g' : Int))
set_option maxHeartbeats 1000000 in
theorem behind_any {s : ByteArray} {w : World} {q : Nat} {A : Option Addr} {g len c : Nat} (z : Int) (h : PV s w q A g len) (hc : len ≤ c) (hs : s.size ≤ 800) :
    Calls Try.prog 29 #[.slice A len c, .int .i64 z] w fun e w' => (∃ A' g' len' c', e = .returned (.slice A' len' c') ∧ PV s w q A' g' len' ∧ len' ≤ c' ∧ IsFrom s g z g') ∧ w' = w := by
  have hml := decT_len s
  obtain ⟨m, hm⟩ : ∃ m, (decT s).length = m := ⟨_, rfl⟩
  have HM := Lib.hid hm
  rw [hm] at hml
  have H := Lib.hid h
  have hgl := h.gl
  rw [hm] at hgl
  clear h hm
  go_enter Try.func29, Try.ntmps29
  go_wp2_with fail
  go_loopw [0] (fun v0 wr => ∃ (A' : Option Addr) (g' len' c' : Nat), v0 = .slice A' len' c' ∧ len' ≤ c' ∧ g ≤ g' ∧ g' ≤ m + 1 ∧ len' ≤ 900 ∧ wr = w ∧ Hid (PV s w q A' g' len') ∧ Hid (∀ j, g ≤ j → j < g' → (AtF (decT s) j : Int) < z)) (fun v0 _ => match v0 with | .slice _ n _ => n | _ => 0)
  case atStart => exact ⟨A, g, len, c, rfl, hc, Nat.le_refl _, hgl, by have := H.out.ln; rw [HM.out] at this; omega, rfl, H.out, fun j h1 h2 => by omega⟩
  case round =>
  obtain ⟨A2, g2, len2, c2, rfl, hc2, hg2, hgm2, hl9, hw, HP, HL⟩ := hrel
  subst hw
  by_cases h0 : 0 < len2
  · obtain ⟨off, hA, hql, hcell⟩ := HP.out.at_ h0
    have c0 := hcell 0 h0
    simp only [Nat.add_zero] at c0
    obtain ⟨a, ha⟩ : ∃ a, AtF (decT s) g2 = a := ⟨_, rfl⟩
    have HA := Lib.hid ha
    rw [ha] at c0
    by_cases hz : (a : Int) < z
    · obtain ⟨A3, c3, hsl, hpv, hc3⟩ := HP.out.tail h0 hc2
      have HPV := Lib.hid hpv
      have HC3 := Lib.hid hc3
      have HL3 : Hid (∀ j, g ≤ j → j < g2 + 1 → (AtF (decT s) j : Int) < z) := fun j h1 h2 => by
        rcases Nat.lt_or_ge j g2 with h | h
        · exact HL.out j h1 h
        · obtain rfl : j = g2 := by omega
          rw [HA.out]; exact hz
      have hlnz : len2 = m + 1 - g2 := by have := HP.out.ln; rw [HM.out] at this; exact this
      have HLN := Lib.hid hlnz
      subst hA
      clear hcell ha hpv hc3 hlnz
      go_wp2_with fail
      go_roundw
      case rel => exact ⟨A3, g2 + 1, len2 - 1, c3, rfl, HC3.out, by omega, by have := HLN.out; omega, by omega, trivial, HPV.out, HL3.out⟩
      case measure => show len2 - 1 < len2; omega
    · have HF : Hid (IsFrom s g z g2) := ⟨hg2, by rw [HM.out]; exact hgm2, HL.out, fun _ => by rw [HA.out]; omega⟩
      subst hA
      clear hcell ha
      go_wp2_with fail
      go_ret
      exact ⟨⟨_, g2, len2, c2, rfl, HP.out, hc2, HF.out⟩, rfl⟩
  · have HF : Hid (IsFrom s g z g2) := ⟨hg2, by rw [HM.out]; exact hgm2, HL.out, fun h => by have := HP.out.ln; omega⟩
    go_wp2_with fail
    go_ret
    exact ⟨⟨_, g2, len2, c2, rfl, HP.out, hc2, HF.out⟩, rfl⟩
end Go.Proofs.Ytjfkppbfckgckaa
namespace Go.Proofs.Ytjfkppbfckgckaa
open Go.RowKit Go.Rb
attribute [local irreducible] Go.wpQuiet
set_option maxRecDepth 20000

def stepL (L : Nat → Option Nat) (f g : Nat) : Option Nat → Option (Nat × Nat)
  | some e => some (g, e)
  | none => firstL L f (g + 1)
theorem firstL_step {L : Nat → Option Nat} {f g : Nat} {o : Option Nat} (h : o = L g) : firstL L (f + 1) g = stepL L f g o := by
  rw [firstL, ← h]
  cases o <;> rfl
def hitV (s : ByteArray) : Option (Nat × Nat) → Value
  | none => .agg #[.int .i64 0, .int .i64 0]
  | some (a, e) => .agg #[.int .i64 (AtF (decT s) a : Int), .int .i64 (AtF (decT s) e : Int)]
theorem CrewS.keep {w w' : World} {B c cp n : Nat} {A : Option Addr} {text : ByteArray} {N : Int} {S : Nat → Prop} (h : CrewS w B c A cp text n N S) (hk : ∀ q, S q → w'.heap[q]? = w.heap[q]?) : CrewS w' B c A cp text n N S := by
  obtain ⟨ta, ma, tb, mb, va, vb, mka, nowa, la, mkb, nowb, lb, hc, h1, h2, h3, h4, h5, h6, hS⟩ := h
  have keep : ∀ q, CS c ta ma tb mb va vb q → w'.heap[q]? = w.heap[q]? := fun q hq => hk q ((hS q).2 hq)
  exact ⟨ta, ma, tb, mb, va, vb, mka, nowa, la, mkb, nowb, lb, ⟨(keep c (.inl rfl)).trans hc.cb, ⟨(keep ta (.inr (.inl (.inl rfl)))).trans hc.a.blk, (keep ma (.inr (.inl (.inr (.inl rfl))))).trans hc.a.mkb, hc.a.ml, Own.keep hc.a.own (fun k hk => keep k (.inr (.inl (.inr (.inr hk))))), hc.a.ne, hc.a.tB, hc.a.mB, hc.a.vB⟩,
    ⟨(keep tb (.inr (.inr (.inl rfl)))).trans hc.b.blk, (keep mb (.inr (.inr (.inr (.inl rfl))))).trans hc.b.mkb, hc.b.ml, Own.keep hc.b.own (fun k hk => keep k (.inr (.inr (.inr (.inr hk))))), hc.b.ne, hc.b.tB, hc.b.mB, hc.b.vB⟩, hc.cB, hc.tn, hc.mn, hc.an, hc.bn, hc.vn⟩, h1, h2, h3, h4, h5, h6, hS⟩
theorem CrewS.more {w : World} {B c cp n : Nat} {A : Option Addr} {text : ByteArray} {N N' : Int} {S : Nat → Prop} (h : CrewS w B c A cp text n N S) (hN : N ≤ N') : CrewS w B c A cp text n N' S := by
  obtain ⟨ta, ma, tb, mb, va, vb, mka, nowa, la, mkb, nowb, lb, hc, h1, h2, h3, h4, h5, h6, hS⟩ := h
  exact ⟨ta, ma, tb, mb, va, vb, mka, nowa, la, mkb, nowb, lb, hc, h1, h2, h3, by omega, h5, by omega, hS⟩
theorem CrewS.store {w : World} {B c cp n rb : Nat} {A : Option Addr} {text : ByteArray} {N : Int} {S : Nat → Prop} (h : CrewS w B c A cp text n N S) (hr : ¬ S rb) (u v : Value) : CrewS ((w.setCell ⟨rb, 0, none⟩ u).setCell ⟨rb, 1, none⟩ v) B c A cp text n N S :=
  h.keep fun q hq => by
    have hne : q ≠ rb := fun e => hr (e ▸ hq)
    exact (Below.heap_setCell _ ⟨rb, 1, none⟩ v q hne).trans (Below.heap_setCell _ ⟨rb, 0, none⟩ u q hne)
set_option maxHeartbeats 4000000 in
theorem first_any {p : List Ins} {n : Nat} (hn : p.length = n) (hn0 : 0 < n) (hn2 : n ≤ 2000) (hok : RightI p) (hset : ∀ (i : Nat) (t : Ins), p[i]? = some t → t.set.length ≤ 1000) {s : ByteArray} (hs8 : s.size ≤ 800) {A : Option Addr} {cp : Nat} (hcp : n ≤ cp) {B c : Nat} {N : Int} {S : Nat → Prop} {L : Nat → Option Nat} (hL : ∀ k, k ≤ (decT s).length → IsLast p (rsL s) k (L k))
    {q : Nat} {Ap : Option Addr} {g len cc : Nat} (w : World) (hC : CrewS w B c A cp s n N S) (hN : N ≤ 90000000) (hP : PRd w B A p) (hV : PV s w q Ap g len) (hq : ¬ S q) (hcc : len ≤ cc) :
    Calls Try.prog 28 #[.pointer (some ⟨c, 0, none⟩), .slice Ap len cc] w fun e w' => e = .returned (.tuple #[hitV s (firstL L len g), .bool (firstL L len g).isSome]) ∧ ∃ S', CrewS w' B c A cp s n (N + 1000000) S' ∧ Only S w w' ∧ ∀ q, S' q → S q ∨ w.heap.size ≤ q := by
  have hml := decT_len s
  obtain ⟨m, hm⟩ : ∃ m, (decT s).length = m := ⟨_, rfl⟩
  have HM := Lib.hid hm
  rw [hm] at hml hL
  have hlen9 : len ≤ 900 := by have := hV.ln; omega
  have hlt := hC.lt
  obtain ⟨R, hR⟩ : ∃ R, firstL L len g = R := ⟨_, rfl⟩
  have HR : Hid (firstL L (len - 0) (g + 0) = R) := hR
  rw [hR]
  have hcB : B ≤ w.heap.size := by
    obtain ⟨ta, ma, tb, mb, va, vb, mka, nowa, la, mkb, nowb, lb, h, -⟩ := hC
    exact Nat.le_trans h.cB (Nat.le_of_lt h.cb.lt)
  have hal := below_al (Below.refl w.heap.size w) (.cells #[.int .i64 0, .int .i64 0] 33)
  have HC0 := Lib.hid (hC.under hal)
  have HP0 := Lib.hid (hP.below (hal.mono hcB))
  have HV0 := Lib.hid (hV.under hal)
  have HRB0 := Lib.hid (Blk.new w 33 #[.int .i64 0, .int .i64 0])
  have HAL := Lib.hid hal
  have HLT := Lib.hid hlt
  have HBS : Hid (∀ q, S q → B ≤ q) := fun q hq => (hlt q hq).2
  have HRS : Hid (¬ S w.heap.size) := fun h => by have := (hlt _ h).1; omega
  have HBW := Lib.hid hcB
  have HL := Lib.hid hL
  have HQ := Lib.hid hq
  have HLONG := Lib.hid (fun (k0 : Nat) (hk0 : k0 ≤ (decT s).length) (W : World) (N' : Int) (S' : Nat → Prop) (hC' : CrewS W B c A cp s n N' S') (hN' : N' ≤ 100000000) (hP' : PRd W B A p) => longest_any hn hn0 hn2 hok hset hs8 hcp k0 hk0 W hC' hN' hP')
  clear hR hC hP hV hal hlt hL hq hm hn hok hset
  go_enter Try.func28, Try.ntmps28
  go_upto_region 1 with fail
  generalize w.alloc (.cells #[.int .i64 0, .int .i64 0] 33) = w0 at HC0 HP0 HV0 HRB0 HAL ⊢
  have hs0 : w.heap.size ≤ w0.heap.size := HAL.out.size
  have hrb0 := HRB0.out.lt
  go_wp2_with fail
  go_loopw [11] (fun iv wr => ∃ (j : Nat) (S' : Nat → Prop), iv = .int .i64 (j : Int) ∧ j ≤ len ∧ Hid (CrewS wr B c A cp s n (N + 1000 * (j : Int)) S') ∧ Hid (Only S w0 wr) ∧ Hid (∀ q, S' q → S q ∨ w0.heap.size ≤ q) ∧ Hid (firstL L (len - j) (g + j) = R)) (fun iv _ => len - (intOf iv).toNat)
  case atStart => exact ⟨0, S, rfl, by omega, by have := HC0.out; show CrewS _ _ _ _ _ _ _ _ _; simpa using this, Only.refl _ _, fun q h => .inl h, HR.out⟩
  case round =>
  obtain ⟨j, S', rfl, hjl, HCJ, HON, HSJ, HRJ⟩ := hrel
  have hsz := HON.out.size
  have HRJ2 : Hid (∀ q, S' q → S q ∨ w.heap.size ≤ q) := fun q hq => (HSJ.out q hq).elim .inl (fun h => .inr (Nat.le_trans hs0 h))
  have HRN : Hid (¬ S' w.heap.size) := fun h => by
    rcases HSJ.out _ h with h1 | h1
    · exact HRS.out h1
    · omega
  by_cases hj : j < len
  · obtain ⟨off, hA, hql, hcell⟩ := (HV0.out.only HON.out HQ.out).at_ (by omega)
    have c0 := hcell j hj
    have hgm : g + j ≤ m := by have := HV0.out.ln; rw [HM.out] at this; omega
    have HPJ : Hid (PRd wr B A p) := HP0.out.below (HON.out.below (Nat.le_trans HBW.out hs0) HBS.out)
    have HCALL := Lib.hid (HLONG.out (g + j) (by rw [HM.out]; exact hgm) wr _ S' HCJ.out (by omega) HPJ.out)
    obtain ⟨a, ha⟩ : ∃ a, AtF (decT s) (g + j) = a := ⟨_, rfl⟩
    have HA := Lib.hid ha
    rw [ha] at c0 HCALL
    subst hA
    clear hcell ha
    go_wp2_with fail
    refine HCALL.out.mono ?_
    rintro e1 w2 ⟨o, ho, rfl, S2, hC2, hO2, hS2⟩
    have hoL : o = L (g + j) := IsLast.fn ho (HL.out (g + j) hgm)
    have HOW' := Lib.hid (HON.out.trans hO2 (fun k hk hs => (HSJ.out k hs).elim id (fun h => absurd hk (by omega))))
    have HS2w : Hid (∀ q, S2 q → S q ∨ w0.heap.size ≤ q) := fun q hq => (hS2 q hq).elim (HSJ.out q) (fun h => .inr (Nat.le_trans hsz h))
    have HC2 := Lib.hid hC2
    have HF1 : Hid (firstL L (len - j) (g + j) = stepL L (len - (j + 1)) (g + j) o) := by
      show _ = _
      rw [show len - j = (len - (j + 1)) + 1 by omega, firstL_step hoL]
    clear hC2 hO2 hS2 hoL ho HCALL
    cases o with
    | none =>
      unfold endV
      have HRN2 : Hid (firstL L (len - (j + 1)) (g + (j + 1)) = R) := HF1.out.symm.trans HRJ.out
      go_wp2_with fail
      go_roundw
      case rel => exact ⟨j + 1, S2, by go_num, by omega, by have := HC2.out; refine this.more ?_; push_cast; omega, HOW'.out, HS2w.out, HRN2.out⟩
      case measure => simp [intOf] <;> omega
    | some e =>
      unfold endV
      obtain ⟨wq, hwq⟩ : ∃ wq, w2 = wq := ⟨_, rfl⟩
      subst hwq
      have HRR : Hid (R = some (g + j, e)) := by show _ = _; rw [← HRJ.out, HF1.out]; rfl
      have HOW : Hid (Only S w0 w2) := HOW'.out
      have HCQ := HC2
      have HRQ : Hid (¬ S2 w.heap.size) := fun h => by
        rcases HS2w.out _ h with h1 | h1
        · exact HRS.out h1
        · omega
      have HSQ : Hid (∀ q, S2 q → S q ∨ w.heap.size ≤ q) := fun q hq => (HS2w.out q hq).elim .inl (fun h => .inr (Nat.le_trans hs0 h))
      have HRBQ : Hid (Blk w2 w.heap.size 33 #[.int .i64 0, .int .i64 0]) := HRB0.out.only HOW.out HRS.out
      have HOQ : Hid (Only S w w2) := ((Only.refl S w).trans (Only.of_below HAL.out |>.mono (fun k hk h => absurd hk (by omega))) (fun _ _ h => h)).trans HOW.out (fun _ _ h => h)
      have y0 := HRBQ.out.cell 0
      have y1 := HRBQ.out.cell 1
      have z0 := HRBQ.out.frozen 0
      have z1 := HRBQ.out.frozen 1
      have hrq := HRBQ.out.lt
      simp only [List.getElem?_toArray, List.getElem?_cons_succ, List.getElem?_cons_zero] at y0 y1
      have hfin : Hid (hitV s (some (g + j, e)) = .agg #[.int .i64 (a : Int), .int .i64 (AtF (decT s) e : Int)]) := by show _ = _; rw [hitV, HA.out]
      go_wp2_with fail
      have hb2 := (HRBQ.out.set_ 0 (.int .i64 (a : Int))).set_ 1 (.int .i64 (AtF (decT s) e : Int))
      have hc2 := HCQ.out.store (rb := w.heap.size) HRQ.out (.int .i64 (a : Int)) (.int .i64 (AtF (decT s) e : Int))
      have ho2 := (HOQ.out.setCell (p := ⟨w.heap.size, 0, none⟩) (fun h => absurd h (Nat.lt_irrefl _)) (.int .i64 (a : Int))).setCell (p := ⟨w.heap.size, 1, none⟩) (fun h => absurd h (Nat.lt_irrefl _)) (.int .i64 (AtF (decT s) e : Int))
      generalize (w2.setCell ⟨w.heap.size, 0, none⟩ (.int .i64 (a : Int))).setCell ⟨w.heap.size, 1, none⟩ (.int .i64 (AtF (decT s) e : Int)) = w9 at hb2 hc2 ho2 ⊢
      have x0 := hb2.cell 0
      have x1 := hb2.cell 1
      simp at x0 x1
      have HC9 := Lib.hid hc2
      have HO9 := Lib.hid ho2
      clear hb2 hc2 ho2 y0 y1 z0 z1
      try simp only [Exit.inBlock, Exit.then]
      refine bodyPost_ret (by simp [results, Try.results28, go_sem, x0, x1]; try rfl) rfl ?_
      refine ⟨by rw [HRR.out, hfin.out]; rfl, _, HC9.out.more (by omega), HO9.out, HSQ.out⟩
  · obtain rfl : j = len := by omega
    have HRR : Hid (R = none) := by show _ = _; rw [← HRJ.out, Nat.sub_self, firstL]
    have HOW : Hid (Only S w0 wr) := HON.out
    have HCQ := HCJ
    have HRQ := HRN
    have HSQ := HRJ2
    have HRBQ : Hid (Blk wr w.heap.size 33 #[.int .i64 0, .int .i64 0]) := HRB0.out.only HOW.out HRS.out
    have HOQ : Hid (Only S w wr) := ((Only.refl S w).trans (Only.of_below HAL.out |>.mono (fun k hk h => absurd hk (by omega))) (fun _ _ h => h)).trans HOW.out (fun _ _ h => h)
    have y0 := HRBQ.out.cell 0
    have y1 := HRBQ.out.cell 1
    have z0 := HRBQ.out.frozen 0
    have z1 := HRBQ.out.frozen 1
    have hrq := HRBQ.out.lt
    simp only [List.getElem?_toArray, List.getElem?_cons_succ, List.getElem?_cons_zero] at y0 y1
    go_wp2_with fail
    have hb2 := (HRBQ.out.set_ 0 (.int .i64 0)).set_ 1 (.int .i64 0)
    have hc2 := HCQ.out.store (rb := w.heap.size) HRQ.out (.int .i64 0) (.int .i64 0)
    have ho2 := (HOQ.out.setCell (p := ⟨w.heap.size, 0, none⟩) (fun h => absurd h (Nat.lt_irrefl _)) (.int .i64 0)).setCell (p := ⟨w.heap.size, 1, none⟩) (fun h => absurd h (Nat.lt_irrefl _)) (.int .i64 0)
    generalize (wr.setCell ⟨w.heap.size, 0, none⟩ (.int .i64 0)).setCell ⟨w.heap.size, 1, none⟩ (.int .i64 0) = w9 at hb2 hc2 ho2 ⊢
    have x0 := hb2.cell 0
    have x1 := hb2.cell 1
    simp at x0 x1
    have HC9 := Lib.hid hc2
    have HO9 := Lib.hid ho2
    clear hb2 hc2 ho2 y0 y1 z0 z1
    try simp only [Exit.inBlock, Exit.then]
    refine bodyPost_ret (by simp [results, Try.results28, go_sem, x0, x1]; try rfl) rfl ?_
    refine ⟨by rw [HRR.out]; rfl, _, HC9.out.more (by omega), HO9.out, HSQ.out⟩
end Go.Proofs.Ytjfkppbfckgckaa
namespace Go.Proofs.Ytjfkppbfckgckaa
open Go.RowKit Go.Rb
attribute [local irreducible] Go.wpQuiet
set_option maxRecDepth 20000

def toIn (t : Ins) : In := ⟨t.op, t.x, t.y⟩
theorem PRd.ins {w : World} {B : Nat} {A : Option Addr} {p : List Ins} (h : PRd w B A p) (hB : B ≤ w.heap.size) : InsR w A (p.map toIn) := fun hne => by
  obtain ⟨b, off, hA, hb, hc⟩ := h (fun e => hne (by rw [e]; rfl))
  refine ⟨b, off, hA, by omega, fun i t hi => ?_⟩
  rw [List.getElem?_map] at hi
  cases hp : p[i]? with
  | none => rw [hp] at hi; simp at hi
  | some t' =>
    rw [hp] at hi
    obtain rfl : toIn t' = t := by simpa using hi
    obtain ⟨A1, c1, -, -, h0, h1, h2, h3⟩ := hc i t' hp
    exact ⟨A1, t'.set.length, c1, h0, h1, h2, h3⟩
theorem rightP_iff {n : Nat} {p : List Ins} (hn : p.length = n) : rightP n (p.map toIn) = true ↔ (RightI p ∧ 0 < n) := by
  subst hn
  unfold rightP RightI
  rw [Bool.and_eq_true, decide_eq_true_eq, List.all_eq_true]
  constructor
  · rintro ⟨h, h0⟩
    refine ⟨fun i t hi => ?_, h0⟩
    have := h (toIn t) (List.mem_map.2 ⟨t, List.mem_of_getElem? hi, rfl⟩)
    unfold okI at this
    obtain ⟨h1, h2, h3, h4⟩ := of_decide_eq_true this
    exact ⟨h1, h2, fun e => h3.resolve_left e, fun e => h4.resolve_left (fun h => h e)⟩
  · rintro ⟨h, h0⟩
    refine ⟨fun t ht => ?_, h0⟩
    obtain ⟨t', ht', rfl⟩ := List.mem_map.1 ht
    obtain ⟨i, hi⟩ := List.mem_iff_getElem?.1 ht'
    obtain ⟨h1, h2, h3, h4⟩ := h i t' hi
    unfold okI
    refine decide_eq_true ⟨h1, h2, ?_, ?_⟩
    · by_cases e : t'.op = 0
      · exact .inl e
      · exact .inr (h3 e)
    · by_cases e : t'.op = 2
      · exact .inr (h4 e)
      · exact .inl e
theorem infoHit : (Try.prog.info? 33).map (fun i => (i.zero, i.size, i.bytes)) = some (some (.agg #[.int .i64 0, .int .i64 0]), 2, 16) := by kernel_rfl
def hitsC (s : ByteArray) (l : List (Nat × Nat)) : List Value := l.flatMap fun h => [.int .i64 (AtF (decT s) h.1 : Int), .int .i64 (AtF (decT s) h.2 : Int)]
def HsO (s : ByteArray) (w : World) (v : Value) (l : List (Nat × Nat)) : Prop := Own w 33 2 v l.length (hitsC s l)
theorem hits_snoc {s : ByteArray} {w : World} {v : Value} {l : List (Nat × Nat)} {a e : Nat} (h : Own w 33 2 v (l.length + 1) (hitsC s l ++ [.int .i64 (AtF (decT s) a : Int), .int .i64 (AtF (decT s) e : Int)])) : HsO s w v (l ++ [(a, e)]) := by
  unfold HsO
  have : hitsC s (l ++ [(a, e)]) = hitsC s l ++ [.int .i64 (AtF (decT s) a : Int), .int .i64 (AtF (decT s) e : Int)] := by simp [hitsC]
  rw [List.length_append, this]
  exact h
def lastV (s : ByteArray) : Option Nat → Int
  | none => -1
  | some e => (AtF (decT s) e : Int)
theorem isFrom_at {s : ByteArray} {g g' e : Nat} (h : IsFrom s g (AtF (decT s) e : Int) g') (he : e ≤ (decT s).length) (hg : g ≤ e) : g' = e := by
  obtain ⟨h1, h2, h3, h4⟩ := h
  rcases Nat.lt_trichotomy g' e with hlt | heq | hgt
  · have := AtF_lt s g' e hlt he
    have := h4 (by omega)
    omega
  · exact heq
  · have := h3 e hg hgt
    omega
theorem isLast_le {p : List Ins} {s : ByteArray} {k e : Nat} (hk : k ≤ (decT s).length) (h : IsLast p (rsL s) k (some e)) : k ≤ e ∧ e ≤ (decT s).length := by
  refine ⟨h.ge, ?_⟩
  obtain ⟨i, t, hr, -⟩ := h.1
  have hl : (rsL s).length = (decT s).length := by simp [rsL]
  have := reach_le (by rw [hl]; exact hk) hr
  rwa [hl] at this
end Go.Proofs.Ytjfkppbfckgckaa
namespace Go.Proofs.Ytjfkppbfckgckaa
open Go.RowKit Go.Rb
attribute [local irreducible] Go.wpQuiet
set_option maxRecDepth 20000

theorem PRd.more {w : World} {B B' : Nat} {A : Option Addr} {p : List Ins} (h : PRd w B A p) (hB : B ≤ B') : PRd w B' A p := fun hs => by
  obtain ⟨b, off, hA, hlt, hc⟩ := h hs
  refine ⟨b, off, hA, by omega, fun i t hi => ?_⟩
  obtain ⟨A1, c1, h1, h2, h3⟩ := hc i t hi
  exact ⟨A1, c1, h1, h2.more hB, h3⟩
theorem crewS_new {w w' : World} {c ta ma tb mb n cp : Nat} {A : Option Addr} {text : ByteArray} (h : Crew w' w.heap.size c ta ma tb mb (.slice none 0 0) (.slice none 0 0) A cp text n (List.replicate n 0) 0 [] (List.replicate n 0) 0 []) : CrewS w' w.heap.size c A cp text n 0 (CS c ta ma tb mb (.slice none 0 0) (.slice none 0 0)) :=
  ⟨ta, ma, tb, mb, _, _, _, _, _, _, _, _, h, fun x hx => by rw [List.mem_replicate] at hx; omega, fun x hx => by rw [List.mem_replicate] at hx; omega, by omega, by omega, by omega, by omega, fun q => Iff.rfl⟩
theorem pv_new {s : ByteArray} {w : World} {v : Value} (h : ZsO w v (atL s)) : ∃ q off c, v = .slice (some ⟨q, off, none⟩) ((decT s).length + 1) c ∧ (decT s).length + 1 ≤ c ∧ v.ownBlock = some q ∧ PV s w q (some ⟨q, off, none⟩) 0 ((decT s).length + 1) := by
  have hl : (atL s).length = (decT s).length + 1 := by simp [atL]
  have h' : Own w 3 1 v (atL s).length ((atL s).map iV) := h
  rw [hl] at h'
  obtain ⟨q, off, c, rfl, hc, -, hq, hcell, -⟩ := h'.form (by omega)
  refine ⟨q, off, c, rfl, hc, rfl, ⟨by omega, by omega, fun _ => ⟨off, rfl, hq, fun j hj => ?_⟩⟩⟩
  rw [hcell j (by omega), List.getElem?_map, show atL s = atK s (decT s).length from rfl, atK_at s _ j (by omega), Nat.zero_add]
  rfl
theorem CrewS.bw {w : World} {B c cp n : Nat} {A : Option Addr} {text : ByteArray} {N : Int} {S : Nat → Prop} (h : CrewS w B c A cp text n N S) : B ≤ w.heap.size := by
  obtain ⟨ta, ma, tb, mb, va, vb, mka, nowa, la, mkb, nowb, lb, h, -⟩ := h
  exact Nat.le_trans h.cB (Nat.le_of_lt h.cb.lt)
theorem app_step {s : ByteArray} {W w3 w7 : World} {B c cp n q g5 len5 hb g7 o7 c7 n7 : Nat} {A A5 : Option Addr} {N : Int} {S4 : Nat → Prop} {v xa xe : Value} {ob : Obj} (hC : CrewS W B c A cp s n N S4) (hPV : PV s W q A5 g5 len5) (hKO : ∀ k, v.ownBlock = some k → B ≤ k ∧ ¬ S4 k ∧ k ≠ q) (hobn : v.ownBlock ≠ some hb)
    (hg : (W.alloc ob).grownBy w7 v.ownBlock) (hat : v.ownBlock = some g7 ∨ g7 = W.heap.size + 1) (hBT : Blk W hb 33 #[xa, xe]) (hB : Below B w3 W) (hq : q < W.heap.size) :
    CrewS w7 B c A cp s n N S4 ∧ PV s w7 q A5 g5 len5 ∧ (∀ k, (Value.slice (some ⟨g7, o7, none⟩) n7 c7).ownBlock = some k → B ≤ k ∧ ¬ S4 k ∧ k ≠ q) ∧ Below B w3 w7 ∧ w7.cell? ⟨hb, 1, none⟩ = some xe ∧ hb < w7.heap.size := by
  have hbw := hC.bw
  have ho : Only (fun k => v.ownBlock = some k) W w7 := ((Only.refl _ W).alloc ob).grown hg (fun k hk _ => hk)
  have hbt := hBT.only ho hobn
  refine ⟨hC.keep fun k hk => ho.block k (hC.lt k hk).1 (fun h => (hKO k h).2.1 hk), hPV.only ho (fun h => (hKO q h).2.2 rfl), fun k hk => ?_, hB.trans (ho.below hbw fun k hk => (hKO k hk).1), hbt.cell 1, hbt.lt⟩
  have e2 : g7 = k := by simpa [Value.ownBlock] using hk
  subst e2
  rcases hat with h | h
  · exact hKO _ h
  · exact ⟨by omega, fun h2 => by have := (hC.lt _ h2).1; omega, by omega⟩
set_option maxHeartbeats 4000000 in
theorem allM_any {p : List Ins} {n : Nat} (hn : p.length = n) (hn0 : 0 < n) (hn2 : n ≤ 2000) (hok : RightI p) (hset : ∀ (i : Nat) (t : Ins), p[i]? = some t → t.set.length ≤ 1000) {s : ByteArray} (hs8 : s.size ≤ 60) {A : Option Addr} {cp : Nat} (hcp : n ≤ cp) {L : Nat → Option Nat} (hL : ∀ k, k ≤ (decT s).length → IsLast p (rsL s) k (L k)) (w : World) {B : Nat} (hB : B ≤ w.heap.size) (hP : PRd w B A p) :
    Calls Try.prog 12 #[.slice A n cp, .string s] w fun e w' => ∃ v, e = .returned v ∧ HsO s w' v (allP L (decT s).length ((decT s).length + 2) 0 none []) ∧ (∀ k, v.ownBlock = some k → w.heap.size ≤ k) ∧ Below w.heap.size w w' := by
  obtain ⟨i0, hi0, hz0, hz1, hz2⟩ := info_parts infoHit
  have hml := decT_len s
  have HRT : Hid (Calls Try.prog 26 #[.slice A n cp] w fun e w' => e = .returned (.bool true) ∧ Below w.heap.size w w') := by
    have h := progRight_any (p.map toIn) A n cp w (hP.ins hB) (by simp [hn]) (by omega) hcp
    rw [(rightP_iff hn).2 ⟨hok, hn0⟩] at h
    exact h
  have HFIRST := Lib.hid (fun (B c : Nat) (N : Int) (S : Nat → Prop) (q : Nat) (Ap : Option Addr) (g len cc : Nat) (W : World) (h1 : CrewS W B c A cp s n N S) (h2 : N ≤ 90000000) (h3 : PRd W B A p) (h4 : PV s W q Ap g len) (h5 : ¬ S q) (h6 : len ≤ cc) => first_any hn hn0 hn2 hok hset (by omega : s.size ≤ 800) hcp hL W h1 h2 h3 h4 h5 h6)
  obtain ⟨m, hm⟩ : ∃ m, (decT s).length = m := ⟨_, rfl⟩
  have HLE : Hid (∀ k e, k ≤ m → L k = some e → k ≤ e ∧ e ≤ m) := fun k e hk he => by
    have := hL k (by omega)
    rw [he] at this
    have := isLast_le (by omega) this
    omega
  have HM := Lib.hid hm
  obtain ⟨R, hR⟩ : ∃ R, allP L m (m + 2) 0 none [] = R := ⟨_, rfl⟩
  rw [hm] at hml ⊢
  rw [hR]
  have HR := Lib.hid hR
  have HP := Lib.hid hP
  have HBW := Lib.hid hB
  clear hn hok hset hL hP hB hm hR
  go_enter Try.func12, Try.ntmps12
  go_wp2_with fail
  refine HRT.out.mono ?_
  rintro e1 w1 ⟨rfl, hb1⟩
  have HB1 := Lib.hid hb1
  have HBG := Lib.hid (begun_any A n cp s w1 hn2)
  clear hb1 HRT
  go_wp2_with fail
  refine HBG.out.mono ?_
  rintro e2 w2 ⟨c, ta, ma, tb, mb, rfl, hcr, hb2⟩
  have HCR := Lib.hid (crewS_new hcr)
  obtain ⟨S, hS⟩ : ∃ S, CS c ta ma tb mb (.slice none 0 0) (.slice none 0 0) = S := ⟨_, rfl⟩
  rw [hS] at HCR
  have HB2 := Lib.hid (below_trans HB1.out hb2)
  have HB12 := Lib.hid hb2
  have HPL := Lib.hid (places_any s w2 (by omega))
  clear hcr hb2 hS HBG
  go_wp2_with fail
  refine HPL.out.mono ?_
  rintro e3 w3 ⟨v, rfl, hz, hk, hb3⟩
  obtain ⟨q, off, cc, rfl, hcc, hob, hpv⟩ := pv_new hz
  have hq2 := hk q hob
  rw [HM.out] at hcc hpv ⊢
  have HPV := Lib.hid hpv
  have HC3 := Lib.hid (HCR.out.under hb3)
  have HB3 := Lib.hid (below_trans HB2.out hb3)
  have hs1 := HB1.out.size
  have hs2 := HB12.out.size
  have hs3 : w2.heap.size ≤ w3.heap.size := hb3.size
  have hSlt : ∀ k, S k → k < w2.heap.size ∧ w1.heap.size ≤ k := HCR.out.lt
  have HSLT := Lib.hid hSlt
  have HP3 : Hid (PRd w3 w1.heap.size A p) := (HP.out.below (HB3.out.mono HBW.out)).more (Nat.le_trans HBW.out hs1)
  have HQ0 : Hid (¬ S q) := fun h => by have := (hSlt q h).1; omega
  have hql3 := hpv.at_ (by omega)
  clear hz hk hb3 hob hpv hSlt HPL hql3
  go_wp2_with fail
  go_loopw [6, 7, 8] (fun v6 v7 v8 wr => ∃ (g : Nat) (last : Option Nat) (out : List (Nat × Nat)) (A' : Option Addr) (len c' : Nat) (N : Int) (S' : Nat → Prop), v7 = .int .i64 (lastV s last) ∧ v8 = .slice A' len c' ∧ len ≤ c' ∧ g ≤ m + 1 ∧ N ≤ 1000000 * (g : Int) ∧ out.length ≤ g ∧ Hid (∀ z, last = some z → z ≤ m) ∧ Hid (CrewS wr w1.heap.size c A cp s n N S') ∧ Hid (PV s wr q A' g len) ∧ Hid (¬ S' q) ∧ Hid (HsO s wr v6 out) ∧ Hid (∀ k, v6.ownBlock = some k → w1.heap.size ≤ k ∧ ¬ S' k ∧ k ≠ q) ∧ Hid (Below w1.heap.size w3 wr) ∧ Hid (∃ f, allP L m f g last out = R ∧ m + 2 ≤ f + g)) (fun _ _ v8 _ => match v8 with | .slice _ n _ => n | _ => 0)
  case atStart => exact ⟨0, none, [], _, m + 1, cc, 0, S, rfl, rfl, hcc, by omega, by omega, by simp, fun z h => by simp at h, HC3.out, HPV.out, HQ0.out, Own.nil_ _ _ _, by simp [Hid, Value.ownBlock], Below.refl _ _, ⟨m + 2, HR.out, by omega⟩⟩
  case round =>
  obtain ⟨g, last, out, A2, len, c2, N, S2, rfl, rfl, hc2, hgm, hN, hol, HLZ, HC, HPVg, HQ2, HO, HKO, HB, HRR⟩ := hrel
  have hlen : len = m + 1 - g := by have := HPVg.out.ln; rw [HM.out] at this; exact this
  have HLEN := Lib.hid hlen
  clear HPV HC3 HQ0 HCR
  obtain ⟨f, hf1, hf2⟩ := HRR.out
  obtain ⟨Ao, co, rfl, -, -⟩ := HO.out.len_
  obtain ⟨lv, hlv⟩ : ∃ lv, lastV s last = lv := ⟨_, rfl⟩
  have HLV := Lib.hid hlv
  rw [hlv]
  clear hlv
  by_cases hg : g ≤ m
  · have hl0 : 0 < len := by omega
    have hl9 : len ≤ 100 := by omega
    obtain ⟨f, rfl⟩ : ∃ x, f = x + 1 := ⟨f - 1, by omega⟩
    rw [allP, if_neg (by omega), ← hlen] at hf1
    have HCALL := Lib.hid (HFIRST.out w1.heap.size c N S2 q A2 g len c2 wr HC.out (by omega) (HP3.out.below HB.out) HPVg.out HQ2.out hc2)
    cases hF : firstL L len g with
    | none =>
      rw [hF] at HCALL hf1
      have HFR : Hid (out = R) := hf1
      rw [show hitV s none = .agg #[.int .i64 0, .int .i64 0] from rfl, show (none : Option (Nat × Nat)).isSome = false from rfl] at HCALL
      clear hF hf1 hlen
      go_wp2_with fail
      refine HCALL.out.mono ?_
      rintro e4 w4 ⟨rfl, S4, hC4, hO4, hS4⟩
      have hBO : Hid (Below w1.heap.size wr w4) := hO4.below HC.out.bw (fun k hk => (HC.out.lt k hk).2)
      have HO9 : Hid (HsO s (w4.alloc (.cells #[.int .i64 0, .int .i64 0] 33)) (.slice Ao out.length co) out) := Own.below (Own.only HO.out hO4 (fun k hk => (HKO.out k hk).2.1)) (below_al (Below.refl _ _) _) (fun k hk => Own.lt (Own.only HO.out hO4 (fun k hk => (HKO.out k hk).2.1)) hk)
      have HB9 : Hid (Below w.heap.size w (w4.alloc (.cells #[.int .i64 0, .int .i64 0] 33))) := HB3.out.trans (((HB.out.trans hBO.out).trans (below_al (Below.refl w4.heap.size w4) _ |>.mono (Nat.le_trans HC.out.bw hO4.size))).mono hs1)
      have HK9 : Hid (∀ k, (Value.slice Ao out.length co).ownBlock = some k → w.heap.size ≤ k) := fun k hk => Nat.le_trans hs1 (HKO.out k hk).1
      clear hC4 hO4 hS4 HCALL
      go_wp2_with fail
      go_ret
      exact ⟨_, rfl, by rw [← HFR.out]; exact HO9.out, HK9.out, HB9.out⟩
    | some ae =>
      obtain ⟨a, e⟩ := ae
      obtain ⟨h1, h2, h3⟩ := firstL_some _ _ _ _ hF
      obtain ⟨h4, h5⟩ := HLE.out a e (by omega) h3
      rw [hF] at HCALL hf1
      simp only at hf1
      rw [show hitV s (some (a, e)) = .agg #[.int .i64 (AtF (decT s) a : Int), .int .i64 (AtF (decT s) e : Int)] from rfl, show (some (a, e) : Option (Nat × Nat)).isSome = true from rfl] at HCALL
      obtain ⟨xa, hxa⟩ : ∃ xa, AtF (decT s) a = xa := ⟨_, rfl⟩
      obtain ⟨xe, hxe⟩ : ∃ xe, AtF (decT s) e = xe := ⟨_, rfl⟩
      have HXA := Lib.hid hxa
      have HXE := Lib.hid hxe
      have hxe60 : xe ≤ 60 := by have := AtF_size s e (by rw [HM.out]; exact h5); omega
      have hxae : xa ≤ xe := by rw [← hxa, ← hxe]; exact AtF_le s a e h4
      have HXL : Hid (a < e → xa < xe) := fun h => by rw [← hxa, ← hxe]; exact AtF_lt s a e h (by rw [HM.out]; exact h5)
      rw [hxa, hxe] at HCALL
      have HF1 := Lib.hid hf1
      clear hF hf1 hlen hxa hxe h3
      go_wp2_with fail
      refine HCALL.out.mono ?_
      rintro e4 w4 ⟨rfl, S4, hC4, hO4, hS4⟩
      have hbl := HC.out.bw
      have hszw := hO4.size
      have hBO : Below w1.heap.size w3 w4 := HB.out.trans (hO4.below hbl (fun k hk => (HC.out.lt k hk).2))
      have hob4 : ∀ k, (Value.slice Ao out.length co).ownBlock = some k → w1.heap.size ≤ k ∧ ¬ S4 k ∧ k ≠ q := fun k hk => by
        obtain ⟨g1, g2, g3⟩ := HKO.out k hk
        refine ⟨g1, fun h => ?_, g3⟩
        rcases hS4 k h with h6 | h6
        · exact g2 h6
        · have := Own.lt HO.out hk; omega
      have hq4 : ¬ S4 q := fun h => by
        rcases hS4 q h with h6 | h6
        · exact HQ2.out h6
        · obtain ⟨off', -, hql, -⟩ := HPVg.out.at_ hl0
          omega
      have hbal := below_al (Below.refl w4.heap.size w4) (.cells #[.int .i64 (xa : Int), .int .i64 (xe : Int)] 33)
      have HC5 := Lib.hid ((hC4.under hbal).more (show N + 1000000 ≤ 1000000 * ((g : Int) + 1) by omega))
      have HPV5 := Lib.hid ((HPVg.out.only hO4 HQ2.out).under hbal)
      have HO4 : Hid (HsO s (w4.alloc (.cells #[.int .i64 (xa : Int), .int .i64 (xe : Int)] 33)) (.slice Ao out.length co) out) := Own.below (Own.only HO.out hO4 (fun k hk => (HKO.out k hk).2.1)) hbal (fun k hk => Own.lt (Own.only HO.out hO4 (fun k hk => (HKO.out k hk).2.1)) hk)
      have HKO4 := Lib.hid hob4
      have HQ4 := Lib.hid hq4
      have HB5 : Hid (Below w1.heap.size w3 (w4.alloc (.cells #[.int .i64 (xa : Int), .int .i64 (xe : Int)] 33))) := hBO.trans (hbal.mono (Nat.le_trans hbl hszw))
      have HBT5 := Lib.hid (Blk.new w4 33 #[.int .i64 (xa : Int), .int .i64 (xe : Int)])
      have hobn : Hid ((Value.slice Ao out.length co).ownBlock ≠ some w4.heap.size) := fun h => by
        have := Own.lt HO.out h
        omega
      have HBH := Lib.hid (behind_any (xe : Int) HPV5.out hc2 (by omega : s.size ≤ 800))
      have hge : g ≤ e := by omega
      clear hC4 hO4 hS4 hob4 hq4 hbal hBO HCALL
      go_wp2_with fail
      refine HBH.out.mono ?_
      rintro e5 w5' ⟨⟨A5, g5, len5, c5, rfl, hpv5, hcc5, hfr⟩, hw5⟩
      obtain rfl := hw5.symm
      rw [← HXE.out] at hfr
      obtain rfl : e = g5 := (isFrom_at hfr (by rw [HM.out]; exact h5) hge).symm
      have HPVE := Lib.hid hpv5
      have HLEN5 : Hid (len5 = m + 1 - e) := by have := hpv5.ln; rw [HM.out] at this; exact this
      have hl5 : 0 < len5 := by have := HLEN5.out; omega
      have hql5 : q < (w4.alloc (.cells #[.int .i64 (xa : Int), .int .i64 (xe : Int)] 33)).heap.size := by obtain ⟨_, _, h, _⟩ := hpv5.at_ hl5; exact h
      generalize w4.alloc (.cells #[.int .i64 (xa : Int), .int .i64 (xe : Int)] 33) = w5 at HC5 HO4 HB5 HBT5 HPVE hql5 ⊢
      obtain ⟨hb, hhb⟩ : ∃ hb, w4.heap.size = hb := ⟨_, rfl⟩
      rw [hhb] at HBT5 hobn ⊢
      have y0 := HBT5.out.cell 0
      have y1 := HBT5.out.cell 1
      have hbl5 := HBT5.out.lt
      simp only [List.getElem?_toArray, List.getElem?_cons_succ, List.getElem?_cons_zero] at y0 y1
      clear hpv5 hfr HBH hhb HPV5 HPVg HC HO HKO
      by_cases hae : a = e
      · subst hae
        have hxx : xa = xe := by rw [← HXA.out, HXE.out]
        subst hxx
        obtain ⟨A6, c6, hsl, hpv6, hc6⟩ := HPVE.out.tail hl5 hcc5
        have HPN := Lib.hid hpv6
        have HCN := Lib.hid hc6
        clear hpv6 hc6
        by_cases hlast : last = some a
        · have hlv : lv = (xa : Int) := by rw [← HLV.out, hlast, lastV, HXA.out]
          subst hlv
          have HR2 : Hid (∃ f, allP L m f (a + 1) (some a) out = R ∧ m + 2 ≤ f + (a + 1)) := ⟨f, by have := HF1.out; rw [if_pos rfl, if_pos hlast] at this; exact this, by omega⟩
          go_wp2_with fail
          go_roundw
          case rel => exact ⟨a + 1, some a, out, A6, len5 - 1, c6, _, S4, by rw [lastV, HXA.out], rfl, HCN.out, by omega, by push_cast; omega, by omega, fun z h => by simp at h; omega, HC5.out, HPN.out, HQ4.out, HO4.out, HKO4.out, HB5.out, HR2.out⟩
          case measure => have := HLEN.out; have := HLEN5.out; show len5 - 1 < len; omega
        · have hlv1 : ¬ (xa : Int) = lv := fun h => hlast (by
            have h2 := HLV.out
            cases last with
            | none => simp only [lastV] at h2; omega
            | some z =>
              simp only [lastV] at h2
              have hz := HLZ.out z rfl
              rw [AtF_inj s (k := z) (j := a) (by rw [HM.out]; exact hz) (by rw [HM.out]; exact h5) (by have := HXA.out; omega)])
          have hlv2 : ((xa : Int) != lv) = true := by simpa using hlv1
          have HR2 : Hid (∃ f, allP L m f (a + 1) (some a) (out ++ [(a, a)]) = R ∧ m + 2 ≤ f + (a + 1)) := ⟨f, by have := HF1.out; rw [if_pos rfl, if_neg hlast] at this; exact this, by omega⟩
          go_wp2_with (at_builtin; go_loud (refine wpList_append_mine _ rfl (.tmp 52) (.tmp 54) _ rfl 33 i0 _ 2 16 Try.underlying27 hi0 hz0 hz1 hz2 rfl (by omega) (.slice Ao out.length co) out.length (hitsC s out) rfl (by exact (HO4.out.alloc _)) _ 1 1 [.int .i64 (xa : Int), .int .i64 (xa : Int)] rfl rfl (by exact news_pushs rfl rfl) (by simp [Value.oneCell']) (by omega) (by simp only [maxLen]; omega) (by omega) _ rfl ?_); intro g7 o7 c7 w7 hown7 hgrow7 hat7; have hst := app_step (g7 := g7) (o7 := o7) (c7 := c7) (n7 := out.length + 1) HC5.out HPN.out HKO4.out hobn.out hgrow7 (by simpa using hat7) HBT5.out HB5.out hql5; obtain ⟨k1, k2, k3, k4, k5, k6⟩ := hst; have HC7 := Lib.hid k1; have HPV7 := Lib.hid k2; have HO7 := Lib.hid (hits_snoc (s := s) (w := w7) (v := .slice (some ⟨g7, o7, none⟩) (out.length + 1) c7) (l := out) (a := a) (e := a) (by rw [HXA.out]; exact hown7)); have HK7 := Lib.hid k3; have HB7 := Lib.hid k4; have x1 := k5; have hl7 := k6; clear k1 k2 k3 k4 k5 k6 hown7 hgrow7 hat7)
          go_roundw
          case rel => exact ⟨a + 1, some a, out ++ [(a, a)], _, len5 - 1, _, _, S4, by rw [lastV, HXA.out], rfl, HCN.out, by omega, by push_cast; omega, by simp; omega, fun z h => by simp at h; omega, HC7.out, HPV7.out, HQ4.out, HO7.out, HK7.out, HB7.out, HR2.out⟩
          case measure => have := HLEN.out; have := HLEN5.out; show len5 - 1 < len; omega
      · have hlt := HXL.out (by omega)
        have HPN := HPVE
        have HCN := Lib.hid hcc5
        have HR2 : Hid (∃ f, allP L m f e (some e) (out ++ [(a, e)]) = R ∧ m + 2 ≤ f + e) := ⟨f, by have := HF1.out; rw [if_neg hae] at this; exact this, by omega⟩
        go_wp2_with (at_builtin; go_loud (refine wpList_append_mine _ rfl (.tmp 52) (.tmp 54) _ rfl 33 i0 _ 2 16 Try.underlying27 hi0 hz0 hz1 hz2 rfl (by omega) (.slice Ao out.length co) out.length (hitsC s out) rfl (by exact (HO4.out.alloc _)) _ 1 1 [.int .i64 (xa : Int), .int .i64 (xe : Int)] rfl rfl (by exact news_pushs rfl rfl) (by simp [Value.oneCell']) (by omega) (by simp only [maxLen]; omega) (by omega) _ rfl ?_); intro g7 o7 c7 w7 hown7 hgrow7 hat7; have hst := app_step (g7 := g7) (o7 := o7) (c7 := c7) (n7 := out.length + 1) HC5.out HPN.out HKO4.out hobn.out hgrow7 (by simpa using hat7) HBT5.out HB5.out hql5; obtain ⟨k1, k2, k3, k4, k5, k6⟩ := hst; have HC7 := Lib.hid k1; have HPV7 := Lib.hid k2; have HO7 := Lib.hid (hits_snoc (s := s) (w := w7) (v := .slice (some ⟨g7, o7, none⟩) (out.length + 1) c7) (l := out) (a := a) (e := e) (by rw [HXA.out, HXE.out]; exact hown7)); have HK7 := Lib.hid k3; have HB7 := Lib.hid k4; have x1 := k5; have hl7 := k6; clear k1 k2 k3 k4 k5 k6 hown7 hgrow7 hat7)
        go_roundw
        case rel => exact ⟨e, some e, out ++ [(a, e)], _, len5, _, _, S4, by rw [lastV, HXE.out], rfl, HCN.out, by omega, by push_cast; omega, by simp; omega, fun z h => by simp at h; omega, HC7.out, HPV7.out, HQ4.out, HO7.out, HK7.out, HB7.out, HR2.out⟩
        case measure => have := HLEN.out; have := HLEN5.out; show len5 < len; omega
  · have HFR : Hid (out = R) := by
      cases f with
      | zero => exact hf1
      | succ f => rw [allP, if_pos (by omega)] at hf1; exact hf1
    have hl0 : len = 0 := by omega
    subst hl0
    have HB9 : Hid (Below w.heap.size w wr) := HB3.out.trans (HB.out.mono hs1)
    have HK9 : Hid (∀ k, (Value.slice Ao out.length co).ownBlock = some k → w.heap.size ≤ k) := fun k hk => Nat.le_trans hs1 (HKO.out k hk).1
    clear hlen hf1
    go_wp2_with fail
    go_ret
    exact ⟨_, rfl, by rw [← HFR.out]; exact HO.out, HK9.out, HB9.out⟩
end Go.Proofs.Ytjfkppbfckgckaa
