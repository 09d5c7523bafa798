/-
  the contracts of reedbedref09's named, escaped and point; the contract of reedbedref09.class; no condition beyond those that each theorem states.
-/
import Derived.Test.YtjfkppbfckgckaaG16
import Derived.Deep.CutRange
import Derived.Deep.CutBlock
set_option linter.unusedVariables false
set_option linter.unusedSimpArgs false
namespace Go.Proofs.Ytjfkppbfckgckaa
set_option maxRecDepth 20000
open Go.RowKit Go.Rb
attribute [local irreducible] Go.wpQuiet

/-- A new slice that holds these ranges. -/
def RetSet (w : World) (s : List (Int × Int)) (e : Ending) (w' : World) : Prop := ∃ v, e = .returned v ∧ SetV w' v s ∧ (∀ k, v.ownBlock = some k → w.heap.size ≤ k) ∧ Below w.heap.size w w'
theorem far_lit {W : World} {B n : Nat} (h : B ≤ W.heap.size) : ∀ k, (Value.slice (some ⟨W.heap.size, 0, none⟩) n n).ownBlock = some k → B ≤ k := fun k hk => by
  have : W.heap.size = k := by simpa [Value.ownBlock] using hk
  omega
theorem named_d (w : World) : Calls Try.prog 67 #[.int .i64 100] w (RetSet w [(48, 57)]) := by
  go_enter Try.func67, Try.ntmps67
  go_wp2_with fail
  go_ret
  exact ⟨_, rfl, setv_lit w _ [(48, 57)] _ rfl rfl (by decide), far_lit (Nat.le_refl _), below_al (Below.refl _ _) _⟩
theorem named_w (w : World) : Calls Try.prog 67 #[.int .i64 119] w (RetSet w [(48, 57), (65, 90), (95, 95), (97, 122)]) := by
  go_enter Try.func67, Try.ntmps67
  go_wp2_with fail
  go_ret
  exact ⟨_, rfl, setv_lit w _ [(48, 57), (65, 90), (95, 95), (97, 122)] _ rfl rfl (by decide), far_lit (Nat.le_refl _), below_al (Below.refl _ _) _⟩
theorem named_s (w : World) : Calls Try.prog 67 #[.int .i64 115] w (RetSet w [(9, 13), (32, 32)]) := by
  go_enter Try.func67, Try.ntmps67
  go_wp2_with fail
  go_ret
  exact ⟨_, rfl, setv_lit w _ [(9, 13), (32, 32)] _ rfl rfl (by decide), far_lit (Nat.le_refl _), below_al (Below.refl _ _) _⟩
def nmF (r : Int) : List (Int × Int) := if r = 100 then [(48, 57)] else if r = 119 then [(48, 57), (65, 90), (95, 95), (97, 122)] else [(9, 13), (32, 32)]
theorem named_any (r : Int) (h : r = 100 ∨ r = 119 ∨ r = 115) (w : World) : Calls Try.prog 67 #[.int .i64 r] w (RetSet w (nmF r)) := by
  rcases h with rfl | rfl | rfl
  · exact named_d w
  · exact named_w w
  · exact named_s w
theorem nmF_len (r : Int) : (nmF r).length ≤ 4 := by unfold nmF; split <;> (try split) <;> decide
theorem made_nm : (madeF [(48, 57)] true).length ≤ 5 ∧ (madeF [(48, 57), (65, 90), (95, 95), (97, 122)] true).length ≤ 5 ∧ (madeF [(9, 13), (32, 32)] true).length ≤ 5 := by decide +kernel
theorem made_nm_len (r : Int) (h : r = 100 ∨ r = 119 ∨ r = 115) : (madeF (nmF r) true).length ≤ 5 := by
  rcases h with rfl | rfl | rfl
  · exact made_nm.1
  · exact made_nm.2.1
  · exact made_nm.2.2
theorem inS_3 (a b c : UInt8) (r : Int) : inS [a, b, c] r = (decide ((a.toNat : Int) = r) || (decide ((b.toNat : Int) = r) || decide ((c.toNat : Int) = r))) := by
  simp [inS]
/-- What escaped and point answer: a set, is it a point, and a flag or how many. -/
def RetEsc (w : World) (e : Ending) (w' : World) : Prop := ∃ (v : Value) (s : List (Int × Int)) (p ok : Bool), e = .returned (.tuple #[v, .bool p, .bool ok]) ∧ SetV w' v s ∧ Below w.heap.size w w' ∧ s.length ≤ 5 ∧ (p = true → s.length = 1)
set_option maxHeartbeats 2000000 in
theorem esc_any (r : Int) (w : World) : Calls Try.prog 52 #[.int .i64 r] w (RetEsc w) := by
  have HI1 := Lib.hid (in_any ⟨#[100, 119, 115]⟩ r w (by decide))
  have HI2 := Lib.hid (in_any ⟨#[68, 87, 83]⟩ r w (by decide))
  have HI3 := Lib.hid (fun (r : Int) => in_any ⟨#[46, 94, 36, 124, 40, 41, 91, 93, 123, 125, 42, 43, 63, 92, 45]⟩ r w (by decide))
  have e1 : inS (⟨#[100, 119, 115]⟩ : ByteArray).data.toList r = (decide ((100 : Int) = r) || (decide ((119 : Int) = r) || decide ((115 : Int) = r))) := inS_3 100 119 115 r
  have e2 : inS (⟨#[68, 87, 83]⟩ : ByteArray).data.toList r = (decide ((68 : Int) = r) || (decide ((87 : Int) = r) || decide ((83 : Int) = r))) := inS_3 68 87 83 r
  rw [e1] at HI1
  rw [e2] at HI2
  clear e1 e2
  by_cases h1 : r = 100 ∨ r = 119 ∨ r = 115
  · have eb : (decide ((100 : Int) = r) || (decide ((119 : Int) = r) || decide ((115 : Int) = r))) = true := by simp; omega
    rw [eb] at HI1
    have HN := Lib.hid (named_any r h1 w)
    have HL := Lib.hid (nmF_len r)
    clear eb h1 HI2 HI3
    go_enter Try.func52, Try.ntmps52
    go_wp2_with fail
    refine HI1.out.mono ?_
    rintro _ w1 ⟨rfl, rfl⟩
    go_wp2_with fail
    refine HN.out.mono ?_
    rintro _ w2 ⟨v, rfl, hs, -, hb⟩
    have HS := Lib.hid hs
    have HB := Lib.hid hb
    clear hs hb HI1 HN
    go_wp2_with fail
    go_returns
    exact ⟨_, _, _, _, rfl, HS.out, HB.out, by have := HL.out; omega, by simp⟩
  have eb : (decide ((100 : Int) = r) || (decide ((119 : Int) = r) || decide ((115 : Int) = r))) = false := by simp; omega
  rw [eb] at HI1
  clear eb
  by_cases h2 : r = 68 ∨ r = 87 ∨ r = 83
  · have eb : (decide ((68 : Int) = r) || (decide ((87 : Int) = r) || decide ((83 : Int) = r))) = true := by simp; omega
    rw [eb] at HI2
    have h3 : r + 32 = 100 ∨ r + 32 = 119 ∨ r + 32 = 115 := by omega
    have HN := Lib.hid (named_any (r + 32) h3 w)
    have HL := Lib.hid (nmF_len (r + 32))
    have HL2 := Lib.hid (made_nm_len (r + 32) h3)
    have hr : 0 ≤ r ∧ r ≤ 100 := by omega
    clear eb h1 h2 h3 HI3
    go_enter Try.func52, Try.ntmps52
    go_wp2_with fail
    refine HI1.out.mono ?_
    rintro _ w1 ⟨rfl, rfl⟩
    go_wp2_with fail
    refine HI2.out.mono ?_
    rintro _ w2 ⟨rfl, rfl⟩
    go_wp2_with fail
    refine HN.out.mono ?_
    rintro _ w3 ⟨v, rfl, hs, -, hb⟩
    obtain ⟨A, c, rfl, hc, hrg⟩ := hs.rgr
    have HM := Lib.hid (madeR_any (nmF (r + 32)) true A (nmF (r + 32)).length c w3.heap.size w3 hrg (Nat.le_refl _) rfl (by have := HL.out; omega) hc)
    have HB := Lib.hid hb
    obtain ⟨nn, hnn⟩ : ∃ nn, (nmF (r + 32)).length = nn := ⟨_, rfl⟩
    rw [hnn] at HM ⊢
    clear hs hb hrg hc hnn HI1 HI2 HN
    go_wp2_with fail
    refine HM.out.mono ?_
    rintro _ w4 ⟨v, rfl, hs, -, hb⟩
    have HS := Lib.hid hs
    have HB4 := Lib.hid (HB.out.trans (hb.mono HB.out.size))
    clear hs hb HM
    go_wp2_with fail
    go_returns
    exact ⟨_, _, _, _, rfl, HS.out, HB4.out, HL2.out, by simp⟩
  have eb : (decide ((68 : Int) = r) || (decide ((87 : Int) = r) || decide ((83 : Int) = r))) = false := by simp; omega
  rw [eb] at HI2
  clear eb h1 h2
  have one : ∀ (x : Int), SetV (w.alloc (.cells #[.int .i64 x, .int .i64 x] 98)) (.slice (some ⟨w.heap.size, 0, none⟩) 1 1) [(x, x)] := fun x => setv_lit w _ [(x, x)] _ rfl rfl (by show 1 ≤ maxLen; decide)
  have HONE := Lib.hid one
  clear one
  by_cases h110 : r = 110
  · subst h110
    clear HI3
    go_enter Try.func52, Try.ntmps52
    go_wp2_with fail
    refine HI1.out.mono ?_
    rintro _ w1 ⟨rfl, rfl⟩
    go_wp2_with fail
    refine HI2.out.mono ?_
    rintro _ w2 ⟨rfl, rfl⟩
    go_wp2_with fail
    go_returns
    exact ⟨_, _, _, _, rfl, HONE.out _, below_al (Below.refl _ _) _, by simp, by simp⟩
  by_cases h114 : r = 114
  · subst h114
    clear HI3 h110
    go_enter Try.func52, Try.ntmps52
    go_wp2_with fail
    refine HI1.out.mono ?_
    rintro _ w1 ⟨rfl, rfl⟩
    go_wp2_with fail
    refine HI2.out.mono ?_
    rintro _ w2 ⟨rfl, rfl⟩
    go_wp2_with fail
    go_returns
    exact ⟨_, _, _, _, rfl, HONE.out _, below_al (Below.refl _ _) _, by simp, by simp⟩
  by_cases h116 : r = 116
  · subst h116
    clear HI3 h110 h114
    go_enter Try.func52, Try.ntmps52
    go_wp2_with fail
    refine HI1.out.mono ?_
    rintro _ w1 ⟨rfl, rfl⟩
    go_wp2_with fail
    refine HI2.out.mono ?_
    rintro _ w2 ⟨rfl, rfl⟩
    go_wp2_with fail
    go_returns
    exact ⟨_, _, _, _, rfl, HONE.out _, below_al (Below.refl _ _) _, by simp, by simp⟩
  have d1 : (r == 110) = false := by simpa using h110
  have d2 : (r == 114) = false := by simpa using h114
  have d3 : (r == 116) = false := by simpa using h116
  have HI4 := Lib.hid (HI3.out r)
  obtain ⟨b, hb⟩ : ∃ b, inS (⟨#[46, 94, 36, 124, 40, 41, 91, 93, 123, 125, 42, 43, 63, 92, 45]⟩ : ByteArray).data.toList r = b := ⟨_, rfl⟩
  rw [hb] at HI4
  clear hb HI3
  cases b
  · go_enter Try.func52, Try.ntmps52
    go_wp2_with fail
    refine HI1.out.mono ?_
    rintro _ w1 ⟨rfl, rfl⟩
    go_wp2_with fail
    refine HI2.out.mono ?_
    rintro _ w2 ⟨rfl, rfl⟩
    go_wp2_with fail
    refine HI4.out.mono ?_
    rintro _ w3 ⟨rfl, rfl⟩
    go_wp2_with fail
    go_returns
    exact ⟨_, [], _, _, rfl, SetV.nil_ _, Below.refl _ _, by simp, by simp⟩
  · go_enter Try.func52, Try.ntmps52
    go_wp2_with fail
    refine HI1.out.mono ?_
    rintro _ w1 ⟨rfl, rfl⟩
    go_wp2_with fail
    refine HI2.out.mono ?_
    rintro _ w2 ⟨rfl, rfl⟩
    go_wp2_with fail
    refine HI4.out.mono ?_
    rintro _ w3 ⟨rfl, rfl⟩
    go_wp2_with fail
    go_returns
    exact ⟨_, _, _, _, rfl, HONE.out _, below_al (Below.refl _ _) _, by simp, by simp⟩
/-- What point answers. -/
def RetPt (w : World) (n : Nat) (e : Ending) (w' : World) : Prop := ∃ (v : Value) (s : List (Int × Int)) (p : Bool) (k : Nat), e = .returned (.tuple #[v, .bool p, .int .i64 (k : Int)]) ∧ SetV w' v s ∧ (∀ k, v.ownBlock = some k → k < w'.heap.size) ∧ Below w.heap.size w w' ∧ k ≤ n ∧ k ≤ 2 ∧ 2 * s.length ≤ 5 * k ∧ (k ≠ 0 → p = true → s.length = 1)
theorem retPt_none {w w' : World} {n : Nat} {e : Ending} (he : e = .returned (.tuple #[.slice none 0 0, .bool false, .int .i64 0])) (hb : Below w.heap.size w w') : RetPt w n e w' :=
  ⟨.slice none 0 0, [], false, 0, he, SetV.nil_ _, fun k hk => by simp [Value.ownBlock] at hk, hb, by omega, by omega, by simp, fun h => absurd rfl h⟩
set_option maxHeartbeats 2000000 in
theorem pt_any (x : List Int) (A : Option Addr) (n c B : Nat) (w : World) (hr : Rd w B 1 A n (x.map iV)) (hB : B ≤ w.heap.size) (hc : n ≤ c) (hn : n ≤ 1000) :
    Calls Try.prog 65 #[.slice A n c] w (RetPt w n) := by
  have hl : x.length = n := by have := hr.1; simpa using this
  cases x with
  | nil =>
    have hn0 : n = 0 := by rw [← hl]; rfl
    subst hn0
    clear hl hr
    go_enter Try.func65, Try.ntmps65
    go_wp2_with fail
    go_returns
    exact retPt_none rfl (Below.refl _ _)
  | cons u rest =>
    obtain ⟨b, off, rfl, hb, hn1, c0⟩ := Rd.at0 hr
    have hbw : b < w.heap.size := by omega
    have HI := Lib.hid (in_any ⟨#[91, 93, 94, 45]⟩ u w (by decide))
    obtain ⟨bb, hbb⟩ : ∃ bb, inS (⟨#[91, 93, 94, 45]⟩ : ByteArray).data.toList u = bb := ⟨_, rfl⟩
    rw [hbb] at HI
    clear hbb
    cases bb
    · by_cases h92 : u = 92
      · subst h92
        by_cases hn2 : n < 2
        · clear hr hl
          go_enter Try.func65, Try.ntmps65
          go_wp2_with fail
          refine HI.out.mono ?_
          rintro _ w1 ⟨rfl, rfl⟩
          go_wp2_with fail
          go_returns
          exact retPt_none rfl (Below.refl _ _)
        · cases rest with
          | nil => simp at hl; omega
          | cons y rest =>
            obtain ⟨b', off', e', -, hcell⟩ := hr.2 (by omega)
            simp only [Option.some.injEq, Addr.mk.injEq, and_true] at e'
            obtain ⟨rfl, rfl⟩ := e'
            have c1 : w.cell? ⟨b, off + 1, none⟩ = some (.int .i64 y) := hcell 1 (by omega)
            have HE := Lib.hid (esc_any y w)
            clear hr hl hcell
            go_enter Try.func65, Try.ntmps65
            go_wp2_with fail
            refine HI.out.mono ?_
            rintro _ w1 ⟨rfl, rfl⟩
            go_wp2_with fail
            refine HE.out.mono ?_
            rintro _ w2 ⟨v, s, p, ok, rfl, hs, hb2, hl5, hp⟩
            have HS := Lib.hid hs
            have HB := Lib.hid hb2
            have HL := Lib.hid hl5
            have HP := Lib.hid hp
            clear hs hb2 hl5 hp HE HI
            cases ok
            · go_wp2_with fail
              go_returns
              exact retPt_none rfl HB.out
            · go_wp2_with fail
              go_returns
              exact ⟨v, s, p, 2, rfl, HS.out, fun k hk => Own.lt HS.out hk, HB.out, by omega, by omega, by have := HL.out; omega, fun _ => HP.out⟩
      · have d1 : (u == 92) = false := by simpa using h92
        have d2 : (u != 92) = true := by simpa using h92
        clear hr hl
        go_enter Try.func65, Try.ntmps65
        go_wp2_with fail
        refine HI.out.mono ?_
        rintro _ w1 ⟨rfl, rfl⟩
        go_wp2_with fail
        go_region
        go_wp2_with fail
        go_returns
        exact ⟨_, [(u, u)], _, 1, rfl, (setv_lit w1 _ [(u, u)] _ rfl rfl (by show 1 ≤ maxLen; decide)).drew, fun k hk => by
          have e : w1.heap.size = k := by simpa [Value.ownBlock] using hk
          show k < (w1.alloc _).heap.size
          rw [← e]; simp, Below.drew (below_al (Below.refl _ _) _), hn1, by omega, by simp, by simp⟩
    · clear hr hl
      go_enter Try.func65, Try.ntmps65
      go_wp2_with fail
      refine HI.out.mono ?_
      rintro _ w1 ⟨rfl, rfl⟩
      go_wp2_with fail
      go_returns
      exact retPt_none rfl (Below.refl _ _)
end Go.Proofs.Ytjfkppbfckgckaa
namespace Go.Proofs.Ytjfkppbfckgckaa
set_option maxRecDepth 20000
open Go.RowKit Go.Rb
attribute [local irreducible] Go.wpQuiet

theorem flat_ints1 (l : List (Int × Int)) : ∀ u ∈ flat l, u.oneCell' = true := by
  intro u hu
  obtain ⟨q, -, hq⟩ := List.mem_flatMap.1 hu
  rcases (by simpa using hq : u = _ ∨ u = _) with rfl | rfl <;> rfl
/-- What class answers. -/
def RetCl (w : World) (n : Nat) (e : Ending) (w' : World) : Prop := ∃ (v : Value) (s : List (Int × Int)) (k : Nat), e = .returned (.tuple #[v, .int .i64 (k : Int)]) ∧ SetV w' v s ∧ Below w.heap.size w w' ∧ k ≤ n ∧ s.length ≤ 1000
theorem retCl_none {w w' : World} {n : Nat} {e : Ending} (he : e = .returned (.tuple #[.slice none 0 0, .int .i64 0])) (hb : Below w.heap.size w w') : RetCl w n e w' :=
  ⟨.slice none 0 0, [], 0, he, SetV.nil_ _, hb, by omega, by simp⟩
def ClR (w : World) (k : Nat) (v : Value) (wr : World) : Prop := ∃ l, SetV wr v l ∧ 2 * l.length ≤ 5 * k ∧ (∀ k, v.ownBlock = some k → w.heap.size ≤ k) ∧ Below w.heap.size w wr
theorem set_cell0 {w : World} {A : Option Addr} {n c : Nat} {s : List (Int × Int)} (h : SetV w (.slice A n c) s) (h1 : s.length = 1) : n = 1 ∧ ∃ b off q, A = some ⟨b, off, none⟩ ∧ b < w.heap.size ∧ w.cell? ⟨b, off, none⟩ = some (.int .i64 q) := by
  unfold SetV at h
  rw [h1] at h
  obtain ⟨b, off, cap, e1, -, -, hb, hcell, -⟩ := h.form (by omega)
  injection e1 with e1 e2 e3
  cases s with
  | nil => simp at h1
  | cons q s => exact ⟨e2, b, off, q.1, e1, hb, hcell 0 (by omega)⟩
set_option maxHeartbeats 4000000 in
theorem cl_any (x : List Int) (A : Option Addr) (n c B : Nat) (w : World) (hr : Rd w B 1 A n (x.map iV)) (hB : B ≤ w.heap.size) (hc : n ≤ c) (hn : n ≤ 59) :
    Calls Try.prog 51 #[.slice A n c] w (RetCl w n) := by
  obtain ⟨j0, hj0, hy0, hy1, hy2⟩ := info_parts infoR
  have hl : x.length = n := by have := hr.1; simpa using this
  have HL := Lib.hid hl
  have HR := Lib.hid (hr.more hB)
  have hcells : ∀ j, j < n → ∃ b off y, A = some ⟨b, off, none⟩ ∧ b < w.heap.size ∧ w.cell? ⟨b, off + j, none⟩ = some (.int .i64 y) := fun j hj => by
    obtain ⟨b, off, e, hb, hcell⟩ := HR.out.2 (by omega)
    have h1 := hcell j (by omega)
    rw [List.getElem?_map, List.getElem?_eq_getElem (by rw [hl]; exact hj)] at h1
    exact ⟨b, off, _, e, hb, h1⟩
  have HC := Lib.hid hcells
  clear hl hr hB hcells
  go_enter Try.func51, Try.ntmps51
  go_upto_region 2 with fail
  go_cut [5] from 14 to 22 (fun v wx => ∃ b : Bool, v = .bool b ∧ (b = true → 0 < n) ∧ wx = w)
  case first =>
    by_cases hn0 : n = 0
    · subst hn0
      clear HR HC HL
      go_wp2_with fail
      go_meet
      case rel => exact ⟨false, rfl, fun h => by simp at h, rfl⟩
    · obtain ⟨b, off, y, rfl, hb, c0⟩ := HC.out 0 (by omega)
      rw [Nat.add_zero] at c0
      have hn1 : 0 < n := by omega
      by_cases hy : y = 94
      · subst hy
        clear HR HC HL hn0
        go_wp2_with fail
        go_meet
        case rel => exact ⟨true, rfl, fun _ => by omega, rfl⟩
      · have hd : (y == 94) = false := by simpa using hy
        clear HR HC HL hn0
        go_wp2_with fail
        go_meet
        case rel => exact ⟨false, rfl, fun _ => by omega, rfl⟩
  case rest =>
  obtain ⟨nt, rfl, hnt, hwc⟩ := hcut
  have hwc := hwc.symm
  subst hwc
  go_upto_if 23 with fail
  go_cut [4] from 24 to 25 (fun v wx => ∃ a : Nat, v = .int .i64 (a : Int) ∧ a ≤ n ∧ wx = w)
  case first =>
    cases nt
    · go_wp2_with fail
      go_meet
      case rel => exact ⟨0, rfl, by omega, rfl⟩
    · have := hnt rfl
      go_wp2_with fail
      go_meet
      case rel => exact ⟨1, rfl, by omega, rfl⟩
  case rest =>
  obtain ⟨a0, rfl, ha0, hwc⟩ := hcut
  have hwc := hwc.symm
  subst hwc
  clear hnt
  go_wp2_with fail
  go_loopw [4, 6, 7] (fun v4 v6 v7 wr => ∃ k pr : Nat, v4 = .int .i64 (k : Int) ∧ v7 = .int .i64 (pr : Int) ∧ k ≤ n ∧ pr ≤ k ∧ Hid (ClR w k v6 wr)) (fun v4 _ _ _ => n - (intOf v4).toNat)
  case atStart => exact ⟨a0, 0, rfl, rfl, ha0, by omega, [], SetV.nil_ _, by simp, by simp [Value.ownBlock], Below.refl _ _⟩
  case round =>
  obtain ⟨k, pr, rfl, rfl, hkn, hprk, HI⟩ := hrel
  obtain ⟨w2, hw2⟩ : ∃ w2, w2 = wr := ⟨_, rfl⟩
  subst hw2
  obtain ⟨l, hs2, hl2, hk2, hb2⟩ := HI.out
  unfold SetV at hs2
  obtain ⟨na, hna⟩ : ∃ na, l.length = na := ⟨_, rfl⟩
  have HNA := Lib.hid hna
  rw [hna] at hs2 hl2
  obtain ⟨A6, c6, rfl, hc6, -⟩ := hs2.len_
  have HS2 := Lib.hid hs2
  have HK := Lib.hid hk2
  have HB2 := Lib.hid hb2
  have hsz2 := hb2.size
  clear hs2 hk2 hb2 HI hna
  go_upto_region 8 with fail
  go_cut [40] from 24 to 115 (fun v wx => ∃ b : Bool, v = .bool b ∧ (b = true → k < n) ∧ wx = w2)
  case first =>
    by_cases hkl : k < n
    · obtain ⟨b, off, y, rfl, hb, c0⟩ := HC.out k hkl
      have c1 := (HB2.out.cell (p := ⟨b, off + k, none⟩) hb).trans c0
      have hbw : b < w2.heap.size := by omega
      by_cases hy : y = 93
      · subst hy
        clear c0 HC HR
        by_cases hp0 : 0 < pr
        · go_wp2_with fail
          go_meet
          case rel => exact ⟨true, rfl, fun _ => hkl, rfl⟩
        · obtain rfl : pr = 0 := by omega
          go_wp2_with fail
          go_meet
          case rel => exact ⟨false, rfl, fun _ => hkl, rfl⟩
      · have hd : (y == 93) = false := by simpa using hy
        clear c0 HC HR hy
        go_wp2_with fail
        go_meet
        case rel => exact ⟨false, rfl, fun _ => hkl, rfl⟩
    · go_wp2_with fail
      go_meet
      case rel => exact ⟨false, rfl, fun h => by simp at h, rfl⟩
  case rest =>
  obtain ⟨cb, rfl, hcb, hwc⟩ := hcut
  have hwc := hwc.symm
  subst hwc
  cases cb
  case true =>
    have hkl := hcb rfl
    have hrg : ∃ A1 c1, A6 = A1 ∧ c6 = c1 ∧ RgR w2 w2.heap.size A1 l := by
      have h : SetV w2 (.slice A6 na c6) l := by unfold SetV; rw [HNA.out]; exact HS2.out
      obtain ⟨A1, c1, e, -, h2⟩ := h.rgr
      injection e with e1 e2 e3
      exact ⟨A1, c1, e1, e3, h2⟩
    obtain ⟨_, _, rfl, rfl, hrg⟩ := hrg
    have HM := Lib.hid (madeR_any l nt A6 na c6 w2.heap.size w2 hrg (Nat.le_refl _) HNA.out (by omega) hc6)
    have HML := Lib.hid (madeF_len l nt)
    clear hrg hcb
    go_wp2_with fail
    refine HM.out.mono ?_
    rintro _ w3 ⟨v3, rfl, hs3, -, hb3⟩
    have HS3 := Lib.hid hs3
    have HB3 := Lib.hid (HB2.out.trans (hb3.mono hsz2))
    clear hs3 hb3 HM
    go_wp2_with fail
    go_returns
    exact ⟨v3, _, k + 1, rfl, HS3.out, HB3.out, by omega, by have := HML.out; rw [HNA.out] at this; omega⟩
  case false =>
  clear hcb
  obtain ⟨At, ct, hsl, hrt, hct, -⟩ := rd_tail (P := Try.prog) 38 Try.underlying38 (fun W => by kernel_rfl) (HR.out.below HB2.out) hc k hkn
  rw [Nat.mul_one, ← List.map_drop] at hrt
  have HPT := Lib.hid (pt_any (x.drop k) At (n - k) ct w.heap.size w2 hrt hsz2 hct (by omega))
  clear hrt
  go_wp2_with fail
  refine HPT.out.mono ?_
  rintro _ w3 ⟨v8, s8, p8, k8, rfl, hs8, hk8, hb8, hk8n, hk82, hl8, hp8⟩
  obtain ⟨n8, hn8⟩ : ∃ n8, s8.length = n8 := ⟨_, rfl⟩
  have HN8 := Lib.hid hn8
  rw [hn8] at hl8 hp8
  obtain ⟨A8, c8, e8, hc8, -⟩ := Own.len_ hs8
  rw [hn8] at e8 hc8
  subst e8
  have HS8 := Lib.hid hs8
  have HB3 := Lib.hid (HB2.out.trans (hb8.mono hsz2))
  have HL3 : Hid (Own w3 98 2 (.slice A6 na c6) na (flat l)) := HS2.out.below hb8 fun k hk => HS2.out.lt hk
  have hsz3 := HB3.out.size
  clear hs8 hk8 hb8 hn8 hsl hct HPT
  by_cases hk0 : k8 = 0
  · subst hk0
    go_wp2_with fail
    go_returns
    exact retCl_none rfl HB3.out
  have hk0' : ((k8 : Int) == 0) = false := by rw [beq_eq_false_iff_ne]; omega
  have HP8 := Lib.hid (hp8 hk0)
  clear hp8
  go_upto_region 14 with fail
  go_cut [72] from 24 to 115 (fun v wx => ∃ b : Bool, v = .bool b ∧ (b = true → p8 = true ∧ k + k8 < n) ∧ wx = w3)
  case first =>
    cases p8
    · go_wp2_with fail
      go_meet
      case rel => exact ⟨false, rfl, fun h => by simp at h, rfl⟩
    · by_cases hkl : k + k8 < n
      · obtain ⟨b, off, y, rfl, hb, c0⟩ := HC.out (k + k8) hkl
        have c1 := (HB3.out.cell (p := ⟨b, off + (k + k8), none⟩) hb).trans c0
        have hbw : b < w3.heap.size := by omega
        clear c0 HC HR
        by_cases hy : y = 45
        · subst hy
          go_wp2_with fail
          go_meet
          case rel => exact ⟨true, rfl, fun _ => ⟨by simp, hkl⟩, rfl⟩
        · have hd : (y == 45) = false := by simpa using hy
          go_wp2_with fail
          go_meet
          case rel => exact ⟨false, rfl, fun _ => ⟨by simp, hkl⟩, rfl⟩
      · go_wp2_with fail
        go_meet
        case rel => exact ⟨false, rfl, fun h => by simp at h, rfl⟩
  case rest =>
  obtain ⟨cb, rfl, hcb, hwc⟩ := hcut
  have hwc := hwc.symm
  subst hwc
  cases cb
  case false =>
    clear hcb
    have HLW := HL3
    have HBW := HB3
    have hsw := hsz3
    have HRW : Hid (Rd w3 w3.heap.size 2 A8 n8 (flat s8)) := by
      have h := HS8.out
      unfold SetV at h
      rw [HN8.out] at h
      exact h.rd
    go_wp2_with (at_builtin; refine wpList_append_rd _ rfl (.tmp 113) (.tmp 114) _ rfl 98 j0 _ 2 16 Try.underlying46 hj0 hy0 hy1 hy2 rfl (by omega) (.slice A6 na c6) na (flat l) rfl (by exact HLW.out) _ A8 n8 c8 (flat s8) rfl (by exact HRW.out) (fun u hu => flat_ints1 _ u hu) (by simp only [maxLen]; omega) (by omega) _ rfl ?_; intro v9 w9 hown9 hgrow9 hat9; have HO9 := Lib.hid hown9; have HB9 := Lib.hid (Below.grown HBW.out hgrow9 hsw HK.out); have HK9 := Lib.hid (rd_far (B := w.heap.size) HK.out hat9 hsw); clear hown9 hgrow9 hat9)
    have HR9 : Hid (ClR w (k + k8) v9 w9) := ⟨l ++ s8, by unfold SetV; rw [List.length_append, HNA.out, HN8.out, flat, List.flatMap_append, ← flat, ← flat]; exact HO9.out, by rw [List.length_append, HNA.out, HN8.out]; omega, HK9.out, HB9.out⟩
    go_roundw
    case rel => exact ⟨k + k8, pr + 1, by go_num, by go_num, by omega, by omega, HR9.out⟩
    case measure => simp [intOf] <;> omega
  case true =>
  obtain ⟨rfl, hkl⟩ := hcb rfl
  have h81 : n8 = 1 := HP8.out rfl
  subst h81
  obtain ⟨b8, o8, q8, rfl, hb8, d8⟩ := (set_cell0 HS8.out HN8.out).2
  obtain ⟨At, ct, hsl, hrt, hct, -⟩ := rd_tail (P := Try.prog) 38 Try.underlying38 (fun W => by kernel_rfl) (HR.out.below HB3.out) hc (k + k8 + 1) (by omega)
  rw [Nat.mul_one, ← List.map_drop] at hrt
  have HPT := Lib.hid (pt_any (x.drop (k + k8 + 1)) At (n - (k + k8 + 1)) ct w.heap.size w3 hrt hsz3 hct (by omega))
  have hcast : (k : Int) + (k8 : Int) + 1 = ((k + k8 + 1 : Nat) : Int) := by omega
  have hsl2 : ∀ W, (Instr.slice 38 (.slice A n c) (some (.int .i64 ((k : Int) + (k8 : Int) + 1))) none none).run Try.prog W = .ok (.slice At (n - (k + k8 + 1)) ct) W := fun W => by rw [hcast]; exact hsl W
  clear hrt hcb hsl hcast
  go_wp2_with fail
  refine HPT.out.mono ?_
  rintro _ w4 ⟨v11, s11, p11, k11, rfl, hs11, hk11, hb11, hk11n, hk112, hl11, hp11⟩
  obtain ⟨n11, hn11⟩ : ∃ n11, s11.length = n11 := ⟨_, rfl⟩
  have HN11 := Lib.hid hn11
  rw [hn11] at hl11 hp11
  obtain ⟨A11, c11, e11, hc11, -⟩ := Own.len_ hs11
  rw [hn11] at e11 hc11
  subst e11
  have HS11 := Lib.hid hs11
  have HB4 := Lib.hid (HB3.out.trans (hb11.mono hsz3))
  have HL4 : Hid (Own w4 98 2 (.slice A6 na c6) na (flat l)) := HL3.out.below hb11 fun k hk => HL3.out.lt hk
  have hsz4 := HB4.out.size
  have d8' := (hb11.cell (p := ⟨b8, o8, none⟩) hb8).trans d8
  have hb84 : b8 < w4.heap.size := Nat.lt_of_lt_of_le hb8 hb11.size
  have HP11 := Lib.hid hp11
  clear hs11 hk11 hb11 hn11 hsl2 hct HPT d8 hp11
  go_upto_region 16 with fail
  go_cut [98] from 24 to 115 (fun v wx => ∃ b : Bool, v = .bool b ∧ (b = false → k11 ≠ 0 ∧ p11 = true) ∧ Drw w4 wx)
  case first =>
    by_cases hk0 : k11 = 0
    · subst hk0
      go_quiet (fail)
      go_wp2_with fail
      go_meet
      case rel => exact ⟨true, rfl, fun h => by simp at h, nq, rfl⟩
    · have hkd : ((k11 : Int) == 0) = false := by rw [beq_eq_false_iff_ne]; omega
      cases p11
      · go_quiet (fail)
        go_wp2_with fail
        go_meet
        case rel => exact ⟨true, rfl, fun h => by simp at h, nq, rfl⟩
      · have h111 : n11 = 1 := HP11.out hk0 rfl
        subst h111
        obtain ⟨b11, o11, q11, rfl, hb11, d11⟩ := (set_cell0 HS11.out HN11.out).2
        go_quiet (fail)
        go_wp2_with fail
        go_meet
        case rel => exact ⟨decide (q11 < q8), by simp, fun _ => ⟨hk0, by simp⟩, nq, rfl⟩
  case rest =>
  obtain ⟨cb, rfl, hcb, hdw⟩ := hcut
  have HD := Lib.hid hdw
  have HB5 := Lib.hid (hdw.bel HB4.out)
  have d85 := hdw.cell d8'
  have hsz5 := hdw.size
  clear hdw
  cases cb
  case true =>
    clear hcb
    go_wp2_with fail
    go_returns
    exact retCl_none rfl HB5.out
  case false =>
  obtain ⟨hk11, rfl⟩ := hcb rfl
  have h111 : n11 = 1 := HP11.out hk11 rfl
  subst h111
  obtain ⟨b11, o11, q11, rfl, hb11, d11⟩ := (set_cell0 HS11.out HN11.out).2
  have d115 := HD.out.cell d11
  have hb85 : b8 < wc.heap.size := by omega
  have hb115 : b11 < wc.heap.size := by omega
  have HL5 : Hid (Own wc 98 2 (.slice A6 na c6) na (flat l)) := HD.out.own HL4.out
  clear hcb d11 hb11 d8' hsz5
  go_upto_region 18 with fail
  go_region
  have HLW : Hid (Own ((wc.alloc (.cells #[.int .i64 q8, .int .i64 q11] 98)).drew) 98 2 (.slice A6 na c6) na (flat l)) := (HL5.out.alloc _).drew
  have HBW : Hid (Below w.heap.size w ((wc.alloc (.cells #[.int .i64 q8, .int .i64 q11] 98)).drew)) := Below.drew (below_al HB5.out _)
  have hsw := HBW.out.size
  have HRW : Hid (Rd ((wc.alloc (.cells #[.int .i64 q8, .int .i64 q11] 98)).drew) ((wc.alloc (.cells #[.int .i64 q8, .int .i64 q11] 98)).drew).heap.size 2 (some ⟨wc.heap.size, 0, none⟩) 1 (flat [(q8, q11)])) := (Own.drew (Own.lit wc 98 2 1 #[.int .i64 q8, .int .i64 q11] rfl (by decide))).rd
  have hlen1 : ([(q8, q11)] : List (Int × Int)).length = 1 := rfl
  clear d85 d115
  generalize (wc.alloc (.cells #[.int .i64 q8, .int .i64 q11] 98)).drew = w5 at HLW HBW hsw HRW ⊢
  go_wp2_with (at_builtin; refine wpList_append_rd _ rfl (.tmp 113) (.tmp 114) _ rfl 98 j0 _ 2 16 Try.underlying46 hj0 hy0 hy1 hy2 rfl (by omega) (.slice A6 na c6) na (flat l) rfl (by exact HLW.out) _ (some ⟨wc.heap.size, 0, none⟩) 1 1 (flat [(q8, q11)]) rfl (by exact HRW.out) (fun u hu => flat_ints1 _ u hu) (by simp only [maxLen]; omega) (by omega) _ rfl ?_; intro v9 w9 hown9 hgrow9 hat9; have HO9 := Lib.hid hown9; have HB9 := Lib.hid (Below.grown HBW.out hgrow9 hsw HK.out); have HK9 := Lib.hid (rd_far (B := w.heap.size) HK.out hat9 hsw); clear hown9 hgrow9 hat9)
  have HR9 : Hid (ClR w (k + k8 + 1 + k11) v9 w9) := ⟨l ++ [(q8, q11)], by unfold SetV; rw [List.length_append, HNA.out, hlen1, flat, List.flatMap_append, ← flat, ← flat]; exact HO9.out, by rw [List.length_append, HNA.out, hlen1]; omega, HK9.out, HB9.out⟩
  go_roundw
  case rel => exact ⟨k + k8 + 1 + k11, pr + 1, by go_num, by go_num, by omega, by omega, HR9.out⟩
  case measure => simp [intOf] <;> omega
end Go.Proofs.Ytjfkppbfckgckaa
