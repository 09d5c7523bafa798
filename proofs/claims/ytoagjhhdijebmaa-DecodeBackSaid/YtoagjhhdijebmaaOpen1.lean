/-
  The contract of the function Open of the code; no condition beyond those that each theorem states.
-/
import Derived.Test.YtoagjhhdijebmaaThrough1
namespace Go.Proofs.Ytoagjhhdijebmaa
open Go.RowKit Go.Rb

def lenOfV : Value → Nat
  | .slice _ n _ => n
  | _ => 0
def headI (bs : List UInt8) : Int := ((bs.headD 0).toNat : Int)
def fillW (bs : List UInt8) (k : Nat) (x : UInt8) : List UInt8 := bs ++ List.replicate k x
/-- Is it open? -/
def OpenC (bs : List UInt8) : Prop := bs = [] ∨ ((bs.length : Int) < lenB (headI bs) ∧ ((getP (fillW bs ((lenB (headI bs)).toNat - bs.length) 128)).2 = lenB (headI bs) ∨ (getP (fillW bs ((lenB (headI bs)).toNat - bs.length) 191)).2 = lenB (headI bs)))
instance (bs : List UInt8) : Decidable (OpenC bs) := by unfold OpenC; exact inferInstance
theorem fillW_succ (bs : List UInt8) (k : Nat) (x : UInt8) : fillW bs (k + 1) x = fillW bs k x ++ [x] := by unfold fillW; rw [List.replicate_succ', List.append_assoc]
theorem fillW_len (bs : List UInt8) (k : Nat) (x : UInt8) : (fillW bs k x).length = bs.length + k := by simp [fillW]

set_option maxHeartbeats 1000000 in
theorem clone_some (b off n c B : Nat) (bs : List UInt8) (w : World) (hr : Rd w B 1 (some ⟨b, off, none⟩) n (bs.map bV)) (hn : n ≤ 1000000) (hB : B ≤ w.heap.size) :
    Calls Try.prog 48 #[.slice (some ⟨b, off, none⟩) n c] w fun e w' => ∃ v, e = .returned v ∧ Own w' 5 1 v n (bs.map bV) ∧ Below w.heap.size w w' ∧ ∀ k, v.ownBlock = some k → w.heap.size ≤ k := by
  obtain ⟨i0, hi0, hz0, hz1, hz2⟩ := info_parts info5
  have HR := Lib.hid hr
  have h63 : 0 + n ≤ maxLen := by simp only [maxLen]; omega
  have H63 := Lib.hid h63
  clear h63 hr
  have q22 : ∀ (w : World) (a : Option Addr) (n c n' c' : Nat), (binOp .eql 22 (.slice a n c) (.slice none n' c')).run Try.prog w = .ok (.bool a.isNone) w := fun w a n c n' c' => Lib.run_eql_slice_nil w _ _ a n c n' c' Try.underlying22
  go_enter Try.func48, Try.ntmps48
  go_wp2_with (at_builtin; refine wpList_append_rd _ rfl (.tmp 5) (.tmp 6) _ rfl 5 i0 _ 1 1 Try.underlying22 hi0 hz0 hz1 hz2 rfl (by omega) (.slice (some ⟨w.heap.size, 0, none⟩) 0 0) 0 [] rfl (by exact Own.lit w 5 1 0 #[] rfl (by decide)) B (some ⟨b, off, none⟩) n c (bs.map bV) rfl (by exact HR.out.below ((below_al (Below.refl _ _) _).mono hB)) (by simp [bV, Value.oneCell']) H63.out (by omega) _ rfl ?_; intro v1 w1 hown1 hgrow1 hat1)
  go_ret
  refine ⟨_, rfl, by simpa using hown1, Below.grown (below_al (Below.refl _ w) _) hgrow1 (by simp) (by simp [Value.ownBlock]), ?_⟩
  intro k hk
  rcases hat1 with h | h
  · have h' := h.symm.trans hk
    have : w.heap.size = k := by simpa [Value.ownBlock] using h'
    omega
  · have h' := h.symm.trans hk
    simp at h'; omega

set_option maxRecDepth 20000 in
set_option maxHeartbeats 4000000 in
theorem codeOpen_any (bs : List UInt8) (A : Option Addr) (n c B : Nat) (w : World) (hr : Rd w B 1 A n (bs.map bV)) (hc : n ≤ c) (hn : n ≤ 1000000) (hB : B ≤ w.heap.size) :
    Calls Try.prog 37 #[.slice A n c] w fun e w' => e = .returned (.bool (decide (OpenC bs))) ∧ Below w.heap.size w w' := by
  obtain ⟨i0, hi0, hz0, hz1, hz2⟩ := info_parts info5
  have hl : bs.length = n := by simpa using hr.1
  rcases Nat.eq_zero_or_pos n with h0 | h0
  · subst h0
    have hb : bs = [] := List.eq_nil_of_length_eq_zero hl
    have hO : decide (OpenC bs) = true := decide_eq_true (.inl hb)
    rw [hO]
    clear hr hl hO hb
    go_enter Try.func37, Try.ntmps37
    go_wp2
    go_ret
    exact ⟨rfl, Below.refl _ _⟩
  · obtain ⟨b, off, rfl, hb, hcell⟩ := hr.2 h0
    have hne : bs ≠ [] := fun e => by rw [e] at hl; simp at hl; omega
    have c0 : w.cell? ⟨b, off, none⟩ = some (.int .u8 (headI bs)) := by
      have := hcell 0 (by omega)
      cases bs with
      | nil => exact absurd rfl hne
      | cons x xs => simpa [bV, headI] using this
    have HR := Lib.hid hr
    have HL := Lib.hid hl
    have hLen := length_any (headI bs) w
    have HLen := Lib.hid hLen
    have hO : OpenC bs ↔ ((n : Int) < lenB (headI bs) ∧ ((getP (fillW bs ((lenB (headI bs)).toNat - n) 128)).2 = lenB (headI bs) ∨ (getP (fillW bs ((lenB (headI bs)).toNat - n) 191)).2 = lenB (headI bs))) := by
      unfold OpenC
      rw [hl]
      exact ⟨fun h => h.elim (fun h => absurd h hne) id, .inr⟩
    have hzb : ((n : Int) == 0) = false := by rw [beq_eq_false_iff_ne]; omega
    have hlen4 : lenB (headI bs) = 0 ∨ lenB (headI bs) = 1 ∨ lenB (headI bs) = 2 ∨ lenB (headI bs) = 3 ∨ lenB (headI bs) = 4 := by
      rcases lenB_cases (headI bs) with ⟨_, h⟩ | ⟨_, _, h⟩ | ⟨_, _, h⟩ | ⟨_, _, h⟩ | ⟨_, _, h⟩ | ⟨_, h⟩ <;> simp [h]
    clear hr hl hcell hLen hne
    obtain ⟨N, hN⟩ : ∃ N : Nat, lenB (headI bs) = (N : Int) := ⟨(lenB (headI bs)).toNat, by omega⟩
    have hN4 : N ≤ 4 := by omega
    rw [hN] at HLen hO
    rw [Int.toNat_natCast] at hO
    clear hlen4
    by_cases hge : (N : Int) ≤ (n : Int)
    · have hOf : decide (OpenC bs) = false := decide_eq_false (fun h => by have := (hO.1 h).1; omega)
      rw [hOf]
      clear hO hOf hN
      generalize headI bs = x at *
      go_enter Try.func37, Try.ntmps37
      go_wp2_with (go_at_call 47; refine HLen.out.mono ?_; rintro e1 w1 ⟨rfl, rfl⟩)
      go_ret
      exact ⟨rfl, Below.refl _ _⟩
    · obtain ⟨d, hd⟩ : ∃ d, N - n = d := ⟨_, rfl⟩
      have hnd : n + d = N := by omega
      rw [hd] at hO
      have HO := Lib.hid hO
      have HB : Hid (B ≤ w.heap.size) := hB
      clear hO hN hd
      generalize headI bs = x at *
      have hC1 : Hid (Calls Try.prog 48 #[.slice (some ⟨b, off, none⟩) n c] w fun e w' => ∃ v, e = .returned v ∧ Own w' 5 1 v n (bs.map bV) ∧ Below w.heap.size w w' ∧ ∀ k, v.ownBlock = some k → w.heap.size ≤ k) := clone_some b off n c B bs w HR.out hn hB
      have hC2 : Hid (∀ W, Below w.heap.size w W → Calls Try.prog 48 #[.slice (some ⟨b, off, none⟩) n c] W fun e w' => ∃ v, e = .returned v ∧ Own w' 5 1 v n (bs.map bV) ∧ Below W.heap.size W w' ∧ ∀ k, v.ownBlock = some k → W.heap.size ≤ k) := fun W hW => clone_some b off n c B bs W (HR.out.below (hW.mono hB)) hn (Nat.le_trans hB hW.size)
      go_enter Try.func37, Try.ntmps37
      go_wp2_with (first
        | (go_at_call 47; refine HLen.out.mono ?_; rintro e1 w1 ⟨rfl, rfl⟩)
        | (go_at_call 48; refine (hC2.out _ HB2.out).mono ?_; rintro e3 w3 ⟨v3, rfl, ho3, hb3, hk3⟩; have HO3 := Lib.hid ho3; have HB3 := Lib.hid (below_trans HB2.out hb3); have HK3 : Hid (∀ k, v3.ownBlock = some k → w.heap.size ≤ k) := (fun k hk => Nat.le_trans HB2.out.size (hk3 k hk)); have HO23 := Lib.hid (HO2.out.below hb3 fun _ h => HO2.out.lt h); have HNE : Hid (∀ k, v2.ownBlock = some k → v3.ownBlock ≠ some k) := (fun k hk hk' => by have := HO2.out.lt hk; have := hk3 k hk'; omega); clear ho3 hb3 hk3)
        | (go_at_call 48; refine hC1.out.mono ?_; rintro e2 w2 ⟨v2, rfl, ho2, hb2, hk2⟩; have HO2 := Lib.hid ho2; have HB2 := Lib.hid hb2; have HK2 := Lib.hid hk2; clear ho2 hb2 hk2))
      go_loopw [4, 5] (fun u v wr => ∃ k : Nat, k ≤ d ∧ Own wr 5 1 u (n + k) ((fillW bs k 128).map bV) ∧ Own wr 5 1 v (n + k) ((fillW bs k 191).map bV) ∧ (∀ q, u.ownBlock = some q → v.ownBlock ≠ some q) ∧ (∀ q, u.ownBlock = some q → w.heap.size ≤ q) ∧ (∀ q, v.ownBlock = some q → w.heap.size ≤ q) ∧ Below w.heap.size w wr) (fun u _ _ => N - (lenOfV u))
      case atStart => exact ⟨0, by omega, by simpa [fillW] using HO23.out, by simpa [fillW] using HO3.out, HNE.out, HK2.out, HK3.out, HB3.out⟩
      case round =>
        obtain ⟨k, hk, hu, hv, hne, hku, hkv, hbw⟩ := hrel
        obtain ⟨Au, cu, rfl, hcu, -⟩ := hu.len_
        obtain ⟨Av, cv, rfl, hcv, -⟩ := hv.len_
        have HU := Lib.hid hu; have HV := Lib.hid hv; have HNE4 := Lib.hid hne; have HKU := Lib.hid hku; have HKV := Lib.hid hkv; have HBW := Lib.hid hbw
        clear hne hku hkv hbw
        obtain ⟨m, hm⟩ : ∃ m, n + k = m := ⟨_, rfl⟩
        have HM := Lib.hid hm
        by_cases hlt : k < d
        · have i5 : (m : Int) < (N : Int) := by omega
          rw [hm] at HU HV HNE4 HKU HKV ⊢
          have hm1 : m + 1 ≤ 1000 := by omega
          clear hm hu hv
          go_wp2_with (first
            | (at_builtin; refine wpList_append_mine _ rfl (.tmp 32) (.tmp 33) _ rfl 5 i0 _ 1 1 Try.underlying22 hi0 hz0 hz1 hz2 rfl (by omega) (.slice Av m cv) m ((fillW bs k 191).map bV) rfl (by exact HV5.out.alloc _) _ 1 1 [_] rfl rfl (by exact news_push rfl rfl) (by simp [Value.oneCell']) (by omega) (by simp only [maxLen]; omega) (by omega) _ rfl ?_; intro g6 o6 c6 w6 hown6 hgrow6 hat6; have HO6 := Lib.hid hown6; have HG6 := Lib.hid hgrow6; have HA6 := Lib.hid hat6; clear hown6 hgrow6 hat6)
            | (at_builtin; refine wpList_append_mine _ rfl (.tmp 29) (.tmp 30) _ rfl 5 i0 _ 1 1 Try.underlying22 hi0 hz0 hz1 hz2 rfl (by omega) (.slice Au m cu) m ((fillW bs k 128).map bV) rfl (by exact HU.out.alloc _) _ 1 1 [_] rfl rfl (by exact news_push rfl rfl) (by simp [Value.oneCell']) (by omega) (by simp only [maxLen]; omega) (by omega) _ rfl ?_; intro g5 o5 c5 w5 hown5 hgrow5 hat5; have HO5 := Lib.hid hown5; have HV5 := Lib.hid ((HV.out.alloc _).grown hgrow5 (fun q hq hq' => HNE4.out q hq' hq)); have HNE5 : Hid (∀ q, (Value.slice (some ⟨g5, o5, none⟩) (m + 1) c5).ownBlock = some q → (Value.slice Av m cv).ownBlock ≠ some q) := (fun q hq hq' => by have e : g5 = q := (by simpa [Value.ownBlock] using hq); subst e; rcases hat5 with h | h; exact HNE4.out _ h hq'; have := HV.out.lt hq'; simp at h; omega); have HB5 := Lib.hid (Below.grown (HBW.out.alloc HBW.out.size _) hgrow5 (by simp; have := HBW.out.size; omega) HKU.out); have HK5 : Hid (w.heap.size ≤ g5) := (by show _ ≤ _; rcases hat5 with h | h; exact HKU.out _ h; rw [h]; have := HBW.out.size; simp; omega); clear hown5 hgrow5 hat5))
          go_roundw
          case rel =>
            have e1 : ∀ x : UInt8, (fillW bs (k + 1) x).map bV = (fillW bs k x).map bV ++ [bV x] := fun x => by rw [fillW_succ, List.map_append]; rfl
            have e2 : n + (k + 1) = m + 1 := by have := HM.out; omega
            refine ⟨k + 1, by omega, ?_, ?_, ?_, ?_, ?_, ?_⟩
            · rw [e1, e2]
              exact (HO5.out.alloc _).grown HG6.out (fun q hq hq' => HNE5.out q hq hq')
            · rw [e1, e2]; exact HO6.out
            · intro q hq hq'
              have h1 : g5 = q := by simpa [Value.ownBlock] using hq
              have h2 : g6 = q := by simpa [Value.ownBlock] using hq'
              subst h1
              subst h2
              rcases HA6.out with h | h
              · exact HNE5.out _ rfl h
              · have := HO5.out.lt (k := g6) rfl
                simp at h; omega
            · intro q hq
              have h1 : g5 = q := by simpa [Value.ownBlock] using hq
              rw [← h1]; exact HK5.out
            · intro q hq
              have h1 : g6 = q := by simpa [Value.ownBlock] using hq
              rw [← h1]
              rcases HA6.out with h | h
              · exact HKV.out _ h
              · rw [h]; have := HB5.out.size; simp; omega
            · exact Below.grown (HB5.out.alloc HB5.out.size _) HG6.out (by simp; have := HB5.out.size; omega) HKV.out
          case measure => simp [lenOfV]; omega
        · obtain rfl : k = d := by omega
          have i5 : ¬ (m : Int) < (N : Int) := by omega
          have hG1 := codeGet_any (fillW bs k 128) Au m cu _ wr (by rw [← hm]; exact hu.rd) (by omega) (by omega)
          have hG2 := codeGet_any (fillW bs k 191) Av m cv _ wr (by rw [← hm]; exact hv.rd) (by omega) (by omega)
          have HG1 := Lib.hid hG1; have HG2 := Lib.hid hG2
          have hOO := HO.out
          rw [hm] at ⊢
          clear hm hu hv hG1 hG2
          have hdec : decide (OpenC bs) = ((getP (fillW bs k 128)).2 == (N : Int) || (getP (fillW bs k 191)).2 == (N : Int)) := by
            have hnN : (n : Int) < (N : Int) := by omega
            have h : OpenC bs ↔ ((getP (fillW bs k 128)).2 = (N : Int) ∨ (getP (fillW bs k 191)).2 = (N : Int)) := hOO.trans ⟨fun h => h.2, fun h => ⟨hnN, h⟩⟩
            by_cases a1 : (getP (fillW bs k 128)).2 = (N : Int)
            · rw [decide_eq_true (h.2 (.inl a1)), beq_iff_eq.2 a1, Bool.true_or]
            · by_cases a2 : (getP (fillW bs k 191)).2 = (N : Int)
              · rw [decide_eq_true (h.2 (.inr a2)), beq_iff_eq.2 a2, Bool.or_true]
              · rw [decide_eq_false (fun hh => (h.1 hh).elim a1 a2), beq_eq_false_iff_ne.2 a1, beq_eq_false_iff_ne.2 a2]; rfl
          have HD := Lib.hid hdec
          clear hdec hOO
          unfold GetTo at HG1 HG2
          generalize (getP (fillW bs k 128)) = p1 at *
          generalize (getP (fillW bs k 191)) = p2 at *
          obtain ⟨x1, y1⟩ := p1
          obtain ⟨x2, y2⟩ := p2
          simp only at HG1 HG2 HD
          by_cases hy1 : y1 = (N : Int)
          · have hb1 : (y1 == (N : Int)) = true := by simp [hy1]
            have HD2 : Hid (decide (OpenC bs) = true) := by show _ = _; rw [HD.out, hb1, Bool.true_or]
            clear HD
            go_wp2_with fail
            refine HG1.out.mono ?_
            rintro e8 w8 ⟨rfl, rfl⟩
            go_wp2_with fail
            refine HG2.out.mono ?_
            rintro e9 w9 ⟨rfl, rfl⟩
            go_wp2_with fail
            go_ret
            exact ⟨by rw [HD2.out]; rfl, HBW.out⟩
          · have hb1 : (y1 == (N : Int)) = false := by simpa using hy1
            have HD2 : Hid (decide (OpenC bs) = (y2 == (N : Int))) := by show _ = _; rw [HD.out, hb1, Bool.false_or]
            clear HD
            go_wp2_with fail
            refine HG1.out.mono ?_
            rintro e8 w8 ⟨rfl, rfl⟩
            go_wp2_with fail
            refine HG2.out.mono ?_
            rintro e9 w9 ⟨rfl, rfl⟩
            go_wp2_with fail
            go_ret
            exact ⟨by rw [HD2.out]; rfl, HBW.out⟩
end Go.Proofs.Ytoagjhhdijebmaa
