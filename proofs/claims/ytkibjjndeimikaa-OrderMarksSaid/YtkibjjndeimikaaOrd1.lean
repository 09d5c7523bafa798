/-
  The contracts of order's functions two and Octets; no condition beyond those that each theorem states.
-/
import Derived.Test.YtkibjjndeimikaaCode5
namespace Go.Proofs.Ytkibjjndeimikaa
open Go.RowKit Go.Rb
attribute [local irreducible] Go.wpQuiet

def twoP (k : Int) : Bool := decide (k = 2) || decide (k = 3)
set_option maxHeartbeats 1000000 in
theorem two_any (k : Int) (w : World) : Calls Try.prog 23 #[.int .i64 k] w fun e w' => e = .returned (.bool (twoP k)) ∧ w = w' := by
  unfold twoP
  by_cases h2 : k = 2
  · subst h2
    go_enter Try.func23, Try.ntmps23
    go_wp2
    go_ret
    exact ⟨rfl, rfl⟩
  · have i1 : (k == 2) = false := by rw [beq_eq_false_iff_ne]; exact h2
    by_cases h3 : k = 3
    · subst h3
      go_enter Try.func23, Try.ntmps23
      go_wp2
      go_ret
      exact ⟨rfl, rfl⟩
    · have i2 : (k == 3) = false := by rw [beq_eq_false_iff_ne]; exact h3
      go_enter Try.func23, Try.ntmps23
      go_wp2
      go_ret
      exact ⟨by rw [decide_eq_false h2, decide_eq_false h3]; rfl, rfl⟩

/-- The octets of a unit: the lower one, the upper one. -/
def loU (u : Int) : Int := u % 65536 % 256
def hiU (u : Int) : Int := u % 65536 / 256
theorem loU_bd (u : Int) : 0 ≤ loU u ∧ loU u < 256 := by unfold loU; omega
theorem hiU_bd (u : Int) : 0 ≤ hiU u ∧ hiU u < 256 := by unfold hiU; omega
def octL (k u : Int) : List UInt8 := if k = 2 then [by_ (loU u), by_ (hiU u)] else if k = 3 then [by_ (hiU u), by_ (loU u)] else []
def octsL (k : Int) (us : List Int) : List UInt8 := us.flatMap (octL k)
theorem octL_len (k u : Int) (h : twoP k = true) : (octL k u).length = 2 := by
  unfold octL
  unfold twoP at h
  simp at h
  rcases h with h | h <;> simp [h]
theorem octsL_len (k : Int) (h : twoP k = true) : ∀ us : List Int, (octsL k us).length = 2 * us.length
  | [] => rfl
  | u :: us => by
    have := octsL_len k h us
    unfold octsL at this ⊢
    rw [List.flatMap_cons, List.length_append, octL_len k u h, this, List.length_cons]; omega
theorem octsL_none (k : Int) (h : twoP k = false) : ∀ us : List Int, octsL k us = []
  | [] => rfl
  | u :: us => by
    have := octsL_none k h us
    unfold octsL at this ⊢
    rw [List.flatMap_cons, this]
    unfold octL
    unfold twoP at h
    simp at h
    rw [if_neg h.1, if_neg h.2]; rfl
theorem octsL_snoc (k : Int) (us : List Int) (u : Int) : octsL k (us ++ [u]) = octsL k us ++ octL k u := by simp [octsL]
theorem wrap16 (u : Int) : IntKind.u16.wrap u = u % 65536 := by
  simp [IntKind.wrap, IntKind.signed, IntKind.bits]
theorem u16_mask (x : Int) (h0 : 0 ≤ x) (h1 : x < 65536) : bits .and .u16 x 255 = x % 256 := by
  obtain ⟨n, rfl⟩ := Int.eq_ofNat_of_zero_le h0
  show IntKind.u16.wrap (((BitVec.ofInt 16 (n : Int) &&& BitVec.ofInt 16 255).toNat : Nat) : Int) = _
  have e : (BitVec.ofInt 16 (n : Int) &&& BitVec.ofInt 16 255).toNat = n % 256 := by
    rw [BitVec.toNat_and, BitVec.ofInt_natCast, BitVec.toNat_ofNat, show (BitVec.ofInt 16 255).toNat = 2 ^ 8 - 1 from rfl, Nat.and_two_pow_sub_one_eq_mod]
    omega
  rw [e, wrap16]
  omega
theorem u16_or (l h : Int) (l0 : 0 ≤ l) (l1 : l < 256) (h0 : 0 ≤ h) (h1 : h < 256) : bits .or .u16 (l * 256) h = l * 256 + h := by
  obtain ⟨a, rfl⟩ := Int.eq_ofNat_of_zero_le l0
  obtain ⟨b, rfl⟩ := Int.eq_ofNat_of_zero_le h0
  show IntKind.u16.wrap (((BitVec.ofInt 16 ((a : Int) * 256) ||| BitVec.ofInt 16 (b : Int)).toNat : Nat) : Int) = _
  have e : ((a : Int) * (256 : Int)) = ((a <<< 8 : Nat) : Int) := by rw [Nat.shiftLeft_eq]; omega
  have hs : a <<< 8 = a * 256 := by rw [Nat.shiftLeft_eq]
  rw [e, BitVec.toNat_or, BitVec.ofInt_natCast, BitVec.ofInt_natCast, BitVec.toNat_ofNat, BitVec.toNat_ofNat, Nat.mod_eq_of_lt (by omega), Nat.mod_eq_of_lt (by omega), ← Nat.shiftLeft_add_eq_or_of_lt (by omega : b < 2 ^ 8), wrap16]
  omega
theorem octL_2 (u : Int) : (octL 2 u).map bV = [.int .u8 (loU u), .int .u8 (hiU u)] := by
  have h1 := loU_bd u
  have h2 := hiU_bd u
  show [bV (by_ (loU u)), bV (by_ (hiU u))] = _
  rw [bV_by _ h1.1 h1.2, bV_by _ h2.1 h2.2]
theorem octL_3 (u : Int) : (octL 3 u).map bV = [.int .u8 (hiU u), .int .u8 (loU u)] := by
  have h1 := loU_bd u
  have h2 := hiU_bd u
  show [bV (by_ (hiU u)), bV (by_ (loU u))] = _
  rw [bV_by _ h1.1 h1.2, bV_by _ h2.1 h2.2]
set_option maxHeartbeats 4000000 in
theorem octets_lo (us : List Int) (A : Option Addr) (n c B : Nat) (w : World) (hr : Rd w B 1 A n (us.map iV)) (hn : n ≤ 1000000) (hB : B ≤ w.heap.size) :
    Calls Try.prog 11 #[.int .i64 2, .slice A n c] w (RetNewB w (octsL 2 us)) := by
  obtain ⟨i0, hi0, hz0, hz1, hz2⟩ := info_parts info5
  have HL := Lib.hid (show us.length = n by simpa using hr.1)
  have HR := Lib.hid hr
  have HT := Lib.hid (two_any 2)
  rw [show twoP 2 = true from rfl] at HT
  clear hr
  go_enter Try.func11, Try.ntmps11
  go_wp2_with (go_at_call 23; refine (HT.out _).mono ?_; rintro e1 w1 ⟨rfl, rfl⟩)
  go_loopw [5, 14] (fun v iv wr => ∃ i : Nat, i ≤ n ∧ iv = .int .i64 i ∧ Own wr 5 1 v (2 * i) ((octsL 2 (us.take i)).map bV) ∧ Hid (∀ k, v.ownBlock = some k → w.heap.size ≤ k) ∧ Below w.heap.size w wr) (fun _ iv _ => n - (intOf iv).toNat)
  case atStart => exact ⟨0, by omega, rfl, Own.nil_ _ _ _, by simp [Hid, Value.ownBlock], Below.refl _ _⟩
  case round =>
    obtain ⟨i, hi, rfl, hv, hkv, hbw⟩ := hrel
    obtain ⟨Av, cv, rfl, -, -⟩ := hv.len_
    have HB := Lib.hid hbw
    have HV := Lib.hid hv
    clear hv
    by_cases hlt : i < n
    · have i1 : (i : Int) < (n : Int) := by omega
      obtain ⟨pa, po, rfl, -, hcell⟩ := ((HR.out.more hB).below HB.out).2 (by omega)
      have x0 := hcell i (by omega)
      have hil : i < us.length := by rw [HL.out]; exact hlt
      rw [List.getElem?_map, List.getElem?_eq_getElem hil] at x0
      have x1 : wr.cell? ⟨pa, po + i, none⟩ = some (.int .i64 us[i]) := x0
      have HN : Hid (us.take (i + 1) = us.take i ++ [us[i]]) := (by rw [List.take_add_one, List.getElem?_eq_getElem hil]; rfl : us.take (i + 1) = us.take i ++ [us[i]])
      have HN2 : Hid ((octsL 2 (us.take (i + 1))).map bV = (octsL 2 (us.take i)).map bV ++ [.int .u8 (loU us[i]), .int .u8 (hiU us[i])]) := (by rw [HN.out, octsL_snoc, List.map_append, octL_2] : (octsL 2 (us.take (i + 1))).map bV = (octsL 2 (us.take i)).map bV ++ [.int .u8 (loU us[i]), .int .u8 (hiU us[i])])
      generalize us[i] = u at *
      clear hcell x0 hbw HN
      have hb1 := loU_bd u
      have hb2 := hiU_bd u
      have hx : IntKind.u16.wrap u = u % 65536 := wrap16 u
      have hm : bits .and .u16 (u % 65536) 255 = loU u := u16_mask _ (by omega) (by omega)
      have hh : u % 65536 / 256 = hiU u := rfl
      have hx0 : 0 ≤ u % 65536 := by omega
      have hx1 : u % 65536 < 65536 := by omega
      generalize u % 65536 = x at *
      have hl1 : loU u % 256 = loU u := by omega
      have hl2 : hiU u % 256 = hiU u := by omega
      generalize loU u = l at *
      generalize hiU u = h at *
      generalize (octsL 2 (us.take i)).map bV = xs at *
      go_wp2_with (at_builtin; refine wpList_append_mine _ rfl (.tmp 27) (.tmp 34) _ rfl 5 i0 _ 1 1 Try.underlying24 hi0 hz0 hz1 hz2 rfl (by omega) (.slice Av (2 * i) cv) (2 * i) xs rfl (by exact HV.out.alloc _) _ 2 2 [.int .u8 l, .int .u8 h] rfl rfl (by exact news_pushs rfl rfl) (by simp [Value.oneCell']) (by omega) (by simp only [maxLen]; omega) (by omega) _ rfl ?_; intro g6 o6 c6 w6 hown6 hgrow6 hat6; have HO6 := Lib.hid hown6; have HB6 := Lib.hid (Below.grown (HB.out.alloc HB.out.size _) hgrow6 (by simp; have := HB.out.size; omega) hkv.out); have HK6 : Hid (w.heap.size ≤ g6) := (by show _ ≤ _; rcases hat6 with h | h; exact hkv.out _ h; rw [h]; have := HB.out.size; simp; omega); clear hown6 hgrow6 hat6)
      go_roundw
      case rel => exact ⟨i + 1, by omega, by go_num, by rw [HN2.out]; exact HO6.out, fun k hk => by simp [Value.ownBlock] at hk; rw [← hk]; exact HK6.out, HB6.out⟩
      case measure => simp [intOf]; omega
    · have e : i = n := by omega
      have i1 : ¬ (i : Int) < (n : Int) := by omega
      have HF : Hid (Own wr 5 1 (.slice Av (2 * i) cv) (octsL 2 us).length ((octsL 2 us).map bV)) := by
        have := HV.out
        rw [e, ← HL.out, List.take_length] at this
        rw [octsL_len 2 rfl, e, ← HL.out]
        exact this
      clear e hbw
      go_wp2_with fail
      go_ret
      exact ⟨_, rfl, HF.out, HB.out, hkv.out⟩
set_option maxHeartbeats 4000000 in
theorem octets_hi (us : List Int) (A : Option Addr) (n c B : Nat) (w : World) (hr : Rd w B 1 A n (us.map iV)) (hn : n ≤ 1000000) (hB : B ≤ w.heap.size) :
    Calls Try.prog 11 #[.int .i64 3, .slice A n c] w (RetNewB w (octsL 3 us)) := by
  obtain ⟨i0, hi0, hz0, hz1, hz2⟩ := info_parts info5
  have HL := Lib.hid (show us.length = n by simpa using hr.1)
  have HR := Lib.hid hr
  have HT := Lib.hid (two_any 3)
  rw [show twoP 3 = true from rfl] at HT
  clear hr
  go_enter Try.func11, Try.ntmps11
  go_wp2_with (go_at_call 23; refine (HT.out _).mono ?_; rintro e1 w1 ⟨rfl, rfl⟩)
  go_loopw [5, 14] (fun v iv wr => ∃ i : Nat, i ≤ n ∧ iv = .int .i64 i ∧ Own wr 5 1 v (2 * i) ((octsL 3 (us.take i)).map bV) ∧ Hid (∀ k, v.ownBlock = some k → w.heap.size ≤ k) ∧ Below w.heap.size w wr) (fun _ iv _ => n - (intOf iv).toNat)
  case atStart => exact ⟨0, by omega, rfl, Own.nil_ _ _ _, by simp [Hid, Value.ownBlock], Below.refl _ _⟩
  case round =>
    obtain ⟨i, hi, rfl, hv, hkv, hbw⟩ := hrel
    obtain ⟨Av, cv, rfl, -, -⟩ := hv.len_
    have HB := Lib.hid hbw
    have HV := Lib.hid hv
    clear hv
    by_cases hlt : i < n
    · have i1 : (i : Int) < (n : Int) := by omega
      obtain ⟨pa, po, rfl, -, hcell⟩ := ((HR.out.more hB).below HB.out).2 (by omega)
      have x0 := hcell i (by omega)
      have hil : i < us.length := by rw [HL.out]; exact hlt
      rw [List.getElem?_map, List.getElem?_eq_getElem hil] at x0
      have x1 : wr.cell? ⟨pa, po + i, none⟩ = some (.int .i64 us[i]) := x0
      have HN : Hid (us.take (i + 1) = us.take i ++ [us[i]]) := (by rw [List.take_add_one, List.getElem?_eq_getElem hil]; rfl : us.take (i + 1) = us.take i ++ [us[i]])
      have HN2 : Hid ((octsL 3 (us.take (i + 1))).map bV = (octsL 3 (us.take i)).map bV ++ [.int .u8 (hiU us[i]), .int .u8 (loU us[i])]) := (by rw [HN.out, octsL_snoc, List.map_append, octL_3] : (octsL 3 (us.take (i + 1))).map bV = (octsL 3 (us.take i)).map bV ++ [.int .u8 (hiU us[i]), .int .u8 (loU us[i])])
      generalize us[i] = u at *
      clear hcell x0 hbw HN
      have hb1 := loU_bd u
      have hb2 := hiU_bd u
      have hx : IntKind.u16.wrap u = u % 65536 := wrap16 u
      have hsh : IntKind.u16.wrap (u % 65536 * 256) = loU u * 256 := by rw [wrap16]; unfold loU; omega
      have hor : bits .or .u16 (loU u * 256) (hiU u) = loU u * 256 + hiU u := u16_or _ _ hb1.1 hb1.2 hb2.1 hb2.2
      have hm : bits .and .u16 (loU u * 256 + hiU u) 255 = hiU u := by rw [u16_mask _ (by omega) (by omega)]; omega
      have hq : (loU u * 256 + hiU u) / 256 = loU u := by omega
      have hh : u % 65536 / 256 = hiU u := rfl
      have hx0 : 0 ≤ u % 65536 := by omega
      have hx1 : u % 65536 < 65536 := by omega
      generalize u % 65536 = x at *
      have hl1 : loU u % 256 = loU u := by omega
      have hl2 : hiU u % 256 = hiU u := by omega
      generalize loU u = l at *
      generalize hiU u = h at *
      generalize (octsL 3 (us.take i)).map bV = xs at *
      go_wp2_with (at_builtin; refine wpList_append_mine _ rfl (.tmp 27) (.tmp 34) _ rfl 5 i0 _ 1 1 Try.underlying24 hi0 hz0 hz1 hz2 rfl (by omega) (.slice Av (2 * i) cv) (2 * i) xs rfl (by exact HV.out.alloc _) _ 2 2 [.int .u8 h, .int .u8 l] rfl rfl (by exact news_pushs rfl rfl) (by simp [Value.oneCell']) (by omega) (by simp only [maxLen]; omega) (by omega) _ rfl ?_; intro g6 o6 c6 w6 hown6 hgrow6 hat6; have HO6 := Lib.hid hown6; have HB6 := Lib.hid (Below.grown (HB.out.alloc HB.out.size _) hgrow6 (by simp; have := HB.out.size; omega) hkv.out); have HK6 : Hid (w.heap.size ≤ g6) := (by show _ ≤ _; rcases hat6 with h | h; exact hkv.out _ h; rw [h]; have := HB.out.size; simp; omega); clear hown6 hgrow6 hat6)
      go_roundw
      case rel => exact ⟨i + 1, by omega, by go_num, by rw [HN2.out]; exact HO6.out, fun k hk => by simp [Value.ownBlock] at hk; rw [← hk]; exact HK6.out, HB6.out⟩
      case measure => simp [intOf]; omega
    · have e : i = n := by omega
      have i1 : ¬ (i : Int) < (n : Int) := by omega
      have HF : Hid (Own wr 5 1 (.slice Av (2 * i) cv) (octsL 3 us).length ((octsL 3 us).map bV)) := by
        have := HV.out
        rw [e, ← HL.out, List.take_length] at this
        rw [octsL_len 3 rfl, e, ← HL.out]
        exact this
      clear e hbw
      go_wp2_with fail
      go_ret
      exact ⟨_, rfl, HF.out, HB.out, hkv.out⟩
set_option maxHeartbeats 1000000 in
theorem octets_any (k : Int) (us : List Int) (A : Option Addr) (n c B : Nat) (w : World) (hr : Rd w B 1 A n (us.map iV)) (hn : n ≤ 1000000) (hB : B ≤ w.heap.size) :
    Calls Try.prog 11 #[.int .i64 k, .slice A n c] w (RetNewB w (octsL k us)) := by
  by_cases h2 : k = 2
  · subst h2; exact octets_lo us A n c B w hr hn hB
  by_cases h3 : k = 3
  · subst h3; exact octets_hi us A n c B w hr hn hB
  have ht : twoP k = false := by unfold twoP; simp [h2, h3]
  have HT := Lib.hid (two_any k)
  rw [ht] at HT
  rw [octsL_none k ht us]
  clear hr
  go_enter Try.func11, Try.ntmps11
  go_wp2_with (go_at_call 23; refine (HT.out _).mono ?_; rintro e1 w1 ⟨rfl, rfl⟩)
  go_ret
  exact ⟨_, rfl, Own.nil_ _ _ _, Below.refl _ _, by simp [Value.ownBlock]⟩
end Go.Proofs.Ytkibjjndeimikaa
