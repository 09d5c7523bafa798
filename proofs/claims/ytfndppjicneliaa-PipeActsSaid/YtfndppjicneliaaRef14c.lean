/-
  The document's pipe: the contracts of its functions Send (all ways) and Withdraw; no condition beyond those that each theorem states.
-/
import Derived.Test.YtfndppjicneliaaRef14b
namespace Go.Proofs.Ytfndppjicneliaa
open Go.RowKit Go.Rb
attribute [local irreducible] Go.wpQuiet

def sendL (r : Nat) (L : List Of) (c : Bool) (n : Int) (who : Int) (x : It) : List Of := if c then L else if waitsO (GS r L c n) who then L else L ++ [(who, x)]
def sendN (r : Nat) (L : List Of) (c : Bool) (n : Int) (who : Int) : Int := if c then n else if waitsO (GS r L c n) who then n else n + 1
theorem gs_sendS (r : Nat) (L : List Of) (c : Bool) (n who : Int) (x : It) : sendS (GS r L c n) who x = GS r (sendL r L c n who x) c (sendN r L c n who) := by
  unfold sendL sendN
  cases c with
  | true => rfl
  | false =>
    cases hw : waitsO (GS r L false n) who with
    | true => unfold sendS; rw [hw]; rfl
    | false => exact (gs_send r L n who x hw).1
set_option maxHeartbeats 4000000 in
theorem rsendAll_any {R : Nat → Prop} {q r : Nat} {L : List Of} {c : Bool} {n : Int} (who : Int) (x : It) (w : World) (hR : RR w R q r L c n) (hn : L.length ≤ 1000000) (hr : r ≤ 1000) (h3 : -1000000 ≤ n ∧ n ≤ 1000000) :
    Calls Try.prog 18 #[pp q, .int .i64 who, x.v] w fun e w' => e = .returned (.tuple #[.bool (sendV (GS r L c n) who), .int .i64 (sendE (GS r L c n) who)]) ∧ RWent w R q r (sendL r L c n who x) c (sendN r L c n who) w' := by
  have hcl : (GS r L c n).cl = c := rfl
  unfold sendL sendN sendV sendE
  rw [hcl]
  cases c with
  | true =>
    obtain ⟨lv, h⟩ := hR
    have hA := h.below (below_al (Below.refl _ _) (.cells #[.int .i64 x.n, .int .i64 x.buf, .int .i64 x.rn, .int .i64 x.ra, .string x.rt, .slice x.ha x.hn x.hc, .int .i64 x.err] 34))
    have c2 := hA.c2
    have hql := h.lt _ h.rq
    have HK : Hid (RWent w R q r L true n (w.alloc (.cells #[.int .i64 x.n, .int .i64 x.buf, .int .i64 x.rn, .int .i64 x.ra, .string x.rt, .slice x.ha x.hn x.hc, .int .i64 x.err] 34))) := RWent.of ((Only.refl R w).alloc _) hA
    clear h hA hcl
    obtain ⟨xn, xb, xrn, xra, xrt, xha, xhn, xhc, xe⟩ := x
    unfold It.v
    unfold pp
    go_enter Try.func18, Try.ntmps18
    go_wp2
    go_ret2
    exact ⟨rfl, HK.out⟩
  | false =>
    cases hw : waitsO (GS r L false n) who with
    | false =>
      have := rsend_any who x w hR hn hr h3 hw
      refine this.mono ?_
      rintro e w' ⟨rfl, hk⟩
      refine ⟨?_, hk⟩
      have h1 : decide ((GS r L false n).inn.length < (GS r L false n).room) = decide (L.length < r) := by
        rw [gs_inn, decide_eq_decide]
        show min r L.length < r ↔ _
        omega
      rw [h1]
      rfl
    | true =>
      obtain ⟨lv, h⟩ := hR
      have hA := h.below (below_al (Below.refl _ _) (.cells #[.int .i64 x.n, .int .i64 x.buf, .int .i64 x.rn, .int .i64 x.ra, .string x.rt, .slice x.ha x.hn x.hc, .int .i64 x.err] 34))
      have c2 := hA.c2
      have hql := h.lt _ h.rq
      have HW := Lib.hid (rwaits_any who _ ⟨lv, hA⟩ hn hr)
      rw [hw] at HW
      have HK : Hid (RWent w R q r L false n (w.alloc (.cells #[.int .i64 x.n, .int .i64 x.buf, .int .i64 x.rn, .int .i64 x.ra, .string x.rt, .slice x.ha x.hn x.hc, .int .i64 x.err] 34))) := RWent.of ((Only.refl R w).alloc _) hA
      clear h hA hcl hw
      obtain ⟨xn, xb, xrn, xra, xrt, xha, xhn, xhc, xe⟩ := x
      unfold It.v
      unfold pp at HW ⊢
      go_enter Try.func18, Try.ntmps18
      go_wp2_with (go_at_call 23; refine HW.out.mono ?_; rintro e1 w1 ⟨rfl, rfl⟩)
      go_ret2
      exact ⟨rfl, HK.out⟩
def wdL (r : Nat) (L : List Of) (who : Int) : List Of := if 0 ≤ ratI r L who then L.eraseIdx (ratI r L who).toNat else L
def wdN (r : Nat) (L : List Of) (n who : Int) : Int := if 0 ≤ ratI r L who then n - 1 else n
theorem ratI_cases (r : Nat) (L : List Of) (who : Int) : ratI r L who = -1 ∨ ∃ i : Nat, r ≤ i ∧ i < L.length ∧ ratI r L who = (i : Int) ∧ atI (L.drop r) who = ((i - r : Nat) : Int) := by
  unfold ratI
  rcases atI_cases (L.drop r) who with ⟨e, -⟩ | ⟨i, hi, e⟩
  · left; rw [e]; rfl
  · right
    have hi' : r + i < L.length := by simp at hi; omega
    refine ⟨r + i, by omega, hi', ?_, ?_⟩
    · rw [e, if_pos (by omega)]; omega
    · rw [e]; congr 1; omega
theorem gs_wdS (r : Nat) (L : List Of) (c : Bool) (n who : Int) : wdS (GS r L c n) who = GS r (wdL r L who) c (wdN r L n who) := by
  unfold wdL wdN
  rcases ratI_cases r L who with e | ⟨i, hri, hi, e, ea⟩
  · rw [e, if_neg (by decide), if_neg (by decide)]
    apply gs_wd_no
    rw [← ratI_ge, e]; rfl
  · rw [e, if_pos (by omega), if_pos (by omega), Int.toNat_natCast]
    have hl : i - r < (L.drop r).length := by simp; omega
    have := (gs_wd r L c n who (i - r) hl ea).1
    rw [show r + (i - r) = i from by omega] at this
    exact this
set_option maxHeartbeats 8000000 in
theorem rwd_any {R : Nat → Prop} {q r : Nat} {L : List Of} {c : Bool} {n : Int} (who : Int) (w : World) (hR : RR w R q r L c n) (hn : L.length ≤ 1000000) (hr : r ≤ 1000) (h3 : -1000000 ≤ n ∧ n ≤ 1000000) :
    Calls Try.prog 21 #[pp q, .int .i64 who] w fun e w' => e = .returned (.bool (waitsO (GS r L c n) who)) ∧ RWent w R q r (wdL r L who) c (wdN r L n who) w' := by
  obtain ⟨k0, hk0, hkz0, hkz1, hkz2⟩ := info_parts infoT
  have HA := Lib.hid (rat_any who w hR hn hr)
  rw [← ratI_ge r L c n who]
  unfold wdL wdN
  rcases ratI_cases r L who with e | ⟨i, hri, hi, e, -⟩
  · rw [e] at HA ⊢
    have HK : Hid (RWent w R q r L c n w) := by obtain ⟨lv, h⟩ := hR; exact RWent.of (Only.refl _ _) h
    clear hR
    rw [if_neg (by decide), if_neg (by decide), show decide ((0 : Int) ≤ -1) = false from rfl]
    unfold pp at HA ⊢
    go_enter Try.func21, Try.ntmps21
    go_wp2_with (go_at_call 29; refine HA.out.mono ?_; rintro e1 w1 ⟨rfl, rfl⟩)
    go_ret
    exact ⟨rfl, HK.out⟩
  · rw [e] at HA ⊢
    rw [if_pos (by omega : (0 : Int) ≤ (i : Int)), if_pos (by omega : (0 : Int) ≤ (i : Int)), Int.toNat_natCast, decide_eq_true (by omega : (0 : Int) ≤ (i : Int))]
    obtain ⟨lv, h⟩ := hR
    obtain ⟨g, off, cap, rfl, hcap, hg, -⟩ := h.at_ hi
    obtain ⟨m, hm⟩ : ∃ m, L.length = m := ⟨_, rfl⟩
    have c0 := h.c0
    have c3 := h.c3
    have hql := h.lt _ h.rq
    have hrd := h.lo.rd
    have hr1 := hrd.take_ (show i ≤ L.length by omega)
    rw [← ocs_take] at hr1
    have hr2 := (h.lo.tail_ (i + 1) (by omega)).rd
    rw [← ocs_drop] at hr2
    rw [hm] at c0 hcap hr2 hi
    have HM := Lib.hid hm
    have HH := Lib.hid h
    have HR1 := Lib.hid hr1
    have HR2 := Lib.hid hr2
    have HLE : Hid (ocs (L.take i) ++ ocs (L.drop (i + 1)) = ocs (L.eraseIdx i)) := (by rw [← ocs_append, List.eraseIdx_eq_take_drop_succ] : ocs (L.take i) ++ ocs (L.drop (i + 1)) = ocs (L.eraseIdx i))
    have HEL : Hid ((L.eraseIdx i).length = i + (m - (i + 1))) := (by rw [List.length_eraseIdx, if_pos (by omega), hm]; omega : (L.eraseIdx i).length = i + (m - (i + 1)))
    have h63 : 0 + i ≤ maxLen := by simp only [maxLen]; omega
    have h64 : i + (m - (i + 1)) ≤ maxLen := by simp only [maxLen]; omega
    have H63 := Lib.hid h63
    have H64 := Lib.hid h64
    have i1 : i ≤ cap := by omega
    have i2 : (i : Int) ≤ (cap : Int) := by omega
    have i3 : (i : Int) + 1 ≤ (m : Int) := by omega
    have i4 : i + 1 ≤ m := by omega
    have i5 : m ≤ 1000000 := by omega
    clear h hrd hr1 hr2 h63 h64 hm hn
    unfold pp at HA ⊢
    go_enter Try.func21, Try.ntmps21
    by_cases hcp : cap = i + 1
    · rw [if_pos hcp] at HR2
      have hmi : m = i + 1 := by omega
      subst hcp
      subst hmi
      rw [Nat.sub_self] at HR2 H64 HEL
      go_wp2_with (first
        | (go_at_call 29; refine HA.out.mono ?_; rintro e1 w1 ⟨rfl, rfl⟩)
        | (at_builtin; refine wpList_append_rd _ rfl (.tmp 12) (.tmp 18) _ rfl 58 k0 _ 8 88 Try.underlying47 hk0 hkz0 hkz1 hkz2 rfl (by omega) (.slice none 0 0) 0 [] rfl (by exact Own.nil_ _ _ _) _ (some ⟨g, off, none⟩) i (i + 1) (ocs (L.take i)) rfl (by exact HR1.out) (ocs_one _) H63.out (by omega) _ rfl ?_; intro v1 w1 hown1 hgrow1 hat1; have ho1 := hown1; rw [Nat.zero_add, List.nil_append] at ho1; have HO1 := Lib.hid ho1; have HO01 : Hid (Only (fun k => w.heap.size ≤ k) w w1) := (Only.refl _ w).grown hgrow1 (fun k hk _ => by simp [Value.ownBlock] at hk); have HV1 : Hid (∀ k, v1.ownBlock = some k → w.heap.size ≤ k) := (fun k hk => by rcases hat1 with h | h; (have h' := h.symm.trans hk; simp [Value.ownBlock] at h'); (have h' := h.symm.trans hk; simp at h'; omega)); have c01 := (HH.out.frame HO01.out (fun k hk hh => by have := HH.out.lt k hk; omega)).c0; have hm1 := HM.out; rw [hm1] at c01; have HR21 := Lib.hid (HR2.out.only HO01.out (Nat.le_refl _) (fun k hk hh => by omega)); obtain ⟨A1, cc1, rfl, -, -⟩ := ho1.len_; have hs1 := HO01.out.size; clear hown1 hgrow1 hat1 ho1 hm1)
        | (at_builtin; refine wpList_append_rd _ rfl (.tmp 21) (.tmp 28) _ rfl 58 k0 _ 8 88 Try.underlying47 hk0 hkz0 hkz1 hkz2 rfl (by omega) (.slice A1 i cc1) i (ocs (L.take i)) rfl (by exact HO1.out) _ (some ⟨g, off, none⟩) 0 _ (ocs (L.drop (i + 1))) rfl (by exact HR21.out) (ocs_one _) H64.out (by omega) _ rfl ?_; intro v2 w2 hown2 hgrow2 hat2; have hnl := HH.out.newL (n' := n - 1) (L' := L.eraseIdx i) (v := v2) (HO01.out.grown hgrow2 (fun k hk _ => HV1.out k hk)) (by rw [HEL.out, ← HLE.out]; exact hown2) (fun k hk => by rcases hat2 with h | h; exact HV1.out _ (h.symm.trans hk); (have h' := h.symm.trans hk; simp at h'; omega)); obtain ⟨A2, cc2, rfl, -, -⟩ := hown2.len_; obtain ⟨a0, a1, a2, a3, a4, HK⟩ := hnl; clear hown2 hgrow2 hat2))
      go_ret
      exact ⟨rfl, HK.out 0⟩
    · rw [if_neg hcp] at HR2
      go_wp2_with (first
        | (go_at_call 29; refine HA.out.mono ?_; rintro e1 w1 ⟨rfl, rfl⟩)
        | (at_builtin; refine wpList_append_rd _ rfl (.tmp 12) (.tmp 18) _ rfl 58 k0 _ 8 88 Try.underlying47 hk0 hkz0 hkz1 hkz2 rfl (by omega) (.slice none 0 0) 0 [] rfl (by exact Own.nil_ _ _ _) _ (some ⟨g, off, none⟩) i cap (ocs (L.take i)) rfl (by exact HR1.out) (ocs_one _) H63.out (by omega) _ rfl ?_; intro v1 w1 hown1 hgrow1 hat1; have ho1 := hown1; rw [Nat.zero_add, List.nil_append] at ho1; have HO1 := Lib.hid ho1; have HO01 : Hid (Only (fun k => w.heap.size ≤ k) w w1) := (Only.refl _ w).grown hgrow1 (fun k hk _ => by simp [Value.ownBlock] at hk); have HV1 : Hid (∀ k, v1.ownBlock = some k → w.heap.size ≤ k) := (fun k hk => by rcases hat1 with h | h; (have h' := h.symm.trans hk; simp [Value.ownBlock] at h'); (have h' := h.symm.trans hk; simp at h'; omega)); have c01 := (HH.out.frame HO01.out (fun k hk hh => by have := HH.out.lt k hk; omega)).c0; have hm1 := HM.out; rw [hm1] at c01; have HR21 := Lib.hid (HR2.out.only HO01.out (Nat.le_refl _) (fun k hk hh => by omega)); obtain ⟨A1, cc1, rfl, -, -⟩ := ho1.len_; have hs1 := HO01.out.size; clear hown1 hgrow1 hat1 ho1 hm1)
        | (at_builtin; refine wpList_append_rd _ rfl (.tmp 21) (.tmp 28) _ rfl 58 k0 _ 8 88 Try.underlying47 hk0 hkz0 hkz1 hkz2 rfl (by omega) (.slice A1 i cc1) i (ocs (L.take i)) rfl (by exact HO1.out) _ (some ⟨g, off + (i + 1) * 8, none⟩) (m - (i + 1)) _ (ocs (L.drop (i + 1))) rfl (by exact HR21.out) (ocs_one _) H64.out (by omega) _ rfl ?_; intro v2 w2 hown2 hgrow2 hat2; have hnl := HH.out.newL (n' := n - 1) (L' := L.eraseIdx i) (v := v2) (HO01.out.grown hgrow2 (fun k hk _ => HV1.out k hk)) (by rw [HEL.out, ← HLE.out]; exact hown2) (fun k hk => by rcases hat2 with h | h; exact HV1.out _ (h.symm.trans hk); (have h' := h.symm.trans hk; simp at h'; omega)); obtain ⟨A2, cc2, rfl, -, -⟩ := hown2.len_; obtain ⟨a0, a1, a2, a3, a4, HK⟩ := hnl; clear hown2 hgrow2 hat2))
      go_ret
      exact ⟨rfl, HK.out 0⟩
end Go.Proofs.Ytfndppjicneliaa
