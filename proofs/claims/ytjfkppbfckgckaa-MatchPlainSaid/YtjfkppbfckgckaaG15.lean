/-
  the contracts of reedbedref09's in and named and of reedbedref08.Ends; the contract of reedbedref08.Ends; no condition beyond those that each theorem states.
-/
import Derived.Test.YtjfkppbfckgckaaG04
import Derived.Test.YtjfkppbfckgckaaG05
import Derived.Test.YtjfkppbfckgckaaG10
import Derived.Test.YtjfkppbfckgckaaG02
import Derived.Test.YtjfkppbfckgckaaG09
set_option linter.unusedVariables false
set_option linter.unusedSimpArgs false
namespace Go.Proofs.Ytjfkppbfckgckaa
set_option maxRecDepth 20000
open Go.RowKit Go.Rb
attribute [local irreducible] Go.wpQuiet

/-- Is a number among a text's octets? -/
def inS (l : List UInt8) (r : Int) : Bool := l.any fun x => decide ((x.toNat : Int) = r)
theorem inS_take {l : List UInt8} {i : Nat} {x : UInt8} {r : Int} (hx : l[i]? = some x) (h : inS (l.take i) r = false) (hr : (x.toNat : Int) ≠ r) : inS (l.take (i + 1)) r = false := by
  unfold inS at h ⊢
  rw [List.take_add_one, hx, List.any_append, h]
  simp [hr]
theorem inS_hit {l : List UInt8} {i : Nat} {x : UInt8} {r : Int} (hx : l[i]? = some x) (hr : (x.toNat : Int) = r) : inS l r = true := by
  unfold inS
  rw [List.any_eq_true]
  exact ⟨x, List.mem_of_getElem? hx, by simpa using hr⟩
set_option maxHeartbeats 1000000 in
theorem in_any (s : ByteArray) (r : Int) (w : World) (hs : s.size ≤ 1000) :
    Calls Try.prog 66 #[.string s, .int .i64 r] w fun e w' => e = .returned (.bool (inS s.data.toList r)) ∧ w' = w := by
  have hl := dlen s
  go_enter Try.func66, Try.ntmps66
  go_wp2_with fail
  go_loopw [5] (fun iv wr => ∃ i : Nat, iv = .int .i64 (i : Int) ∧ i ≤ s.size ∧ wr = w ∧ Hid (inS (s.data.toList.take i) r = false)) (fun iv _ => s.size - (intOf iv).toNat)
  case atStart => exact ⟨0, rfl, by omega, rfl, by show _ = _; simp [inS]⟩
  case round =>
  obtain ⟨i, rfl, hin, rfl, HI⟩ := hrel
  by_cases hlt : i < s.size
  · obtain ⟨x, hx⟩ : ∃ x, s.data.toList[i]? = some x := ⟨_, List.getElem?_eq_getElem (by omega)⟩
    have hxs : s[i] = x := by
      have h1 := (List.getElem?_eq_some_iff.1 hx).2
      rw [← h1]; rfl
    have hidx := idx_str s i hlt
    rw [hxs] at hidx
    have HX := Lib.hid hx
    have hx0 : x.toNat < 256 := x.toNat_lt
    obtain ⟨y, hy⟩ : ∃ y, x.toNat = y := ⟨_, rfl⟩
    have HY := Lib.hid hy
    rw [hy] at hidx hx0
    clear hxs hx hy hl
    by_cases hr : (y : Int) = r
    · have HF : Hid (inS s.data.toList r = true) := inS_hit HX.out (by rw [HY.out]; exact hr)
      subst hr
      go_wp2_with fail
      go_ret
      exact ⟨by rw [HF.out]; rfl, rfl⟩
    · have HF : Hid (inS (s.data.toList.take (i + 1)) r = false) := inS_take HX.out HI.out (by rw [HY.out]; exact hr)
      have hr1 : ((y : Int) == r) = false := by simpa using hr
      clear HI
      go_wp2_with fail
      go_roundw
      case rel => exact ⟨i + 1, by go_num, by omega, by first | rfl | trivial, HF⟩
      case measure => simp [intOf] <;> omega
  · have HF : Hid (inS s.data.toList r = false) := by
      have := HI.out
      rw [List.take_of_length_le (by omega)] at this
      exact this
    clear HI
    go_wp2_with fail
    go_ret
    exact ⟨by rw [HF.out]; rfl, rfl⟩
/-! ### The ends of ranges -/
def clampE (x : Int) : Int := if x < -2 then -2 else if 1114113 < x then 1114113 else x
def eD (x d : Int) : List Int := if 0 ≤ clampE x + d ∧ clampE x + d ≤ 1114111 then [clampE x + d] else []
/-- So many of the three beside a number. -/
def eK (x : Int) : Nat → List Int
  | 0 => []
  | k + 1 => eK x k ++ eD x ((k : Int) - 1)
def e2 (q : Int × Int) : Nat → List Int
  | 0 => []
  | k + 1 => e2 q k ++ eK (if k = 0 then q.1 else q.2) 3
def endsF (s : List (Int × Int)) : List Int := [0, 1114111] ++ s.flatMap fun q => e2 q 2
theorem eD_len (x d : Int) : (eD x d).length ≤ 1 := by unfold eD; split <;> simp
theorem eK_len (x : Int) : ∀ k, (eK x k).length ≤ k
  | 0 => by simp [eK]
  | k + 1 => by
    rw [eK, List.length_append]
    have := eK_len x k
    have := eD_len x ((k : Int) - 1)
    omega
theorem e2_len (q : Int × Int) : ∀ k, (e2 q k).length ≤ 3 * k
  | 0 => by simp [e2]
  | k + 1 => by
    rw [e2, List.length_append]
    have := e2_len q k
    have := eK_len (if k = 0 then q.1 else q.2) 3
    omega
theorem endsF_len (s : List (Int × Int)) : (endsF s).length ≤ 2 + 6 * s.length := by
  unfold endsF
  rw [List.length_append]
  have : (s.flatMap fun q => e2 q 2).length ≤ 6 * s.length := by
    induction s with
    | nil => simp
    | cons a s ih =>
      rw [List.flatMap_cons, List.length_append, List.length_cons]
      have := e2_len a 2
      omega
  simp only [List.length_cons, List.length_nil]
  omega
theorem endsF_take {s : List (Int × Int)} {i : Nat} {q : Int × Int} (hi : s[i]? = some q) : endsF (s.take (i + 1)) = endsF (s.take i) ++ e2 q 2 := by
  unfold endsF
  rw [List.take_add_one, hi, List.flatMap_append]
  simp
theorem clampE_bd (x : Int) : -2 ≤ clampE x ∧ clampE x ≤ 1114113 := by unfold clampE; split <;> (try split) <;> omega
end Go.Proofs.Ytjfkppbfckgckaa
namespace Go.Proofs.Ytjfkppbfckgckaa
set_option maxRecDepth 20000
open Go.RowKit Go.Rb
attribute [local irreducible] Go.wpQuiet

theorem eD_low {x d : Int} (h : x < -2) (hd : d ≤ 1) : eD x d = [] := by
  have : clampE x = -2 := by unfold clampE; rw [if_pos h]
  unfold eD; rw [this, if_neg (by omega)]
theorem eD_high {x d : Int} (h : 1114113 < x) (hd : -1 ≤ d) : eD x d = [] := by
  have : clampE x = 1114113 := by unfold clampE; rw [if_neg (by omega), if_pos h]
  unfold eD; rw [this, if_neg (by omega)]
theorem eD_mid {x d : Int} (h1 : ¬ x < -2) (h2 : ¬ 1114113 < x) : eD x d = if 0 ≤ x + d ∧ x + d ≤ 1114111 then [x + d] else [] := by
  have : clampE x = x := by unfold clampE; rw [if_neg h1, if_neg h2]
  unfold eD; rw [this]
theorem ne_far {v : Value} {g H lb o n c : Nat} (hk : ∀ k, v.ownBlock = some k → ¬ k = lb) (h : v.ownBlock = some g ∨ g = H) (hH : lb < H) : ∀ k, (Value.slice (some ⟨g, o, none⟩) n c).ownBlock = some k → ¬ k = lb := by
  intro k e
  have e2 : g = k := by simpa [Value.ownBlock] using e
  subst e2
  rcases h with h | h
  · exact hk _ h
  · omega
def selE (q : Int × Int) (k : Nat) : Int := if k = 0 then q.1 else q.2
def EndI (s : List (Int × Int)) (i : Nat) (q : Int × Int) (k : Nat) (x : Int) (j : Nat) (zs : List Int) : Prop := zs = endsF (s.take i) ++ e2 q k ++ eK x j
def EndO (w : World) (P : List Int → Prop) (v : Value) (wr : World) : Prop := ∃ zs, P zs ∧ ZsO wr v zs ∧ (∀ k, v.ownBlock = some k → w.heap.size ≤ k) ∧ Below w.heap.size w wr
def EndR (w : World) (lb : Nat) (qa qb : Int) (P : List Int → Prop) (v : Value) (wr : World) : Prop := ∃ zs, P zs ∧ ZsO wr v zs ∧ (∀ k, v.ownBlock = some k → w.heap.size ≤ k) ∧ Below w.heap.size w wr ∧ Blk wr lb 3 #[.int .i64 qa, .int .i64 qb] ∧ ∀ k, v.ownBlock = some k → ¬ k = lb
set_option maxHeartbeats 4000000 in
theorem ends_any (s : List (Int × Int)) (A : Option Addr) (n c B : Nat) (w : World) (hr : RgR w B A s) (hB : B ≤ w.heap.size) (hl : s.length = n) (hn : n ≤ 500) (hc : n ≤ c) :
    Calls Try.prog 73 #[.slice A n c] w fun e w' => ∃ v, e = .returned v ∧ ZsO w' v (endsF s) ∧ (∀ k, v.ownBlock = some k → w.heap.size ≤ k) ∧ Below w.heap.size w w' := by
  obtain ⟨i0, hi0, hz0, hz1, hz2⟩ := info_parts info3
  have HR := Lib.hid (hr.more hB)
  have HLN := Lib.hid hl
  clear hr hB hl
  go_enter Try.func73, Try.ntmps73
  go_wp2_with fail
  go_loopw [3, 4] (fun v3 v4 wr => ∃ (i : Nat), v4 = .int .i64 (i : Int) ∧ i ≤ n ∧ Hid (EndO w (fun zs => zs = endsF (s.take i)) v3 wr)) (fun _ v4 _ => n - (intOf v4).toNat)
  case atStart =>
    refine ⟨0, rfl, by omega, [0, 1114111], rfl, ?_, ?_, below_al (Below.refl _ _) _⟩
    · have := Own.lit w 3 1 2 #[.int .i64 0, .int .i64 1114111] rfl (by decide)
      exact this
    · intro k hk
      have : w.heap.size = k := by simpa [Value.ownBlock] using hk
      omega
  case round =>
  obtain ⟨i, rfl, hin, HR0⟩ := hrel
  obtain ⟨zs, hz, ho, hk, hb0⟩ := HR0.out
  have HZ := Lib.hid hz
  have HO := Lib.hid ho
  have HK := Lib.hid hk
  have HB := Lib.hid hb0
  clear hz ho hk hb0 HR0
  obtain ⟨A3, c3, rfl, hc3, -⟩ := HO.out.len_
  by_cases hlt : i < n
  · obtain ⟨q, hq⟩ : ∃ q, s[i]? = some q := ⟨_, List.getElem?_eq_getElem (by rw [HLN.out]; exact hlt)⟩
    have HQ := Lib.hid hq
    obtain ⟨b, off, rfl, hb, hcell⟩ := HR.out (fun e => by rw [e] at hq; simp at hq)
    obtain ⟨d0, d1⟩ := hcell i q hq
    have hbel : ∀ o, wr.cell? ⟨b, o, none⟩ = w.cell? ⟨b, o, none⟩ := fun o => HB.out.cell (p := ⟨b, o, none⟩) hb
    have hsw := HB.out.size
    have d0' : wr.cell? ⟨b, off + i * 2, none⟩ = some (.int .i64 q.1) := (hbel _).trans d0
    have d1' : wr.cell? ⟨b, off + i * 2 + 1, none⟩ = some (.int .i64 q.2) := (hbel _).trans d1
    have hbr : b < wr.heap.size := by omega
    obtain ⟨qa, qb⟩ := q
    simp only at d0' d1'
    clear d0 d1 hbel hcell hq
    go_wp2_with fail
    go_region
    have hbk := (Blk.new wr 3 #[.int .i64 qa, .int .i64 qb]).drewN 1
    have hal := below_al (Below.refl wr.heap.size wr) (.cells #[.int .i64 qa, .int .i64 qb] 3)
    have HO1 : Hid (ZsO ((wr.alloc (.cells #[.int .i64 qa, .int .i64 qb] 3)).drew) (.slice A3 zs.length c3) zs) := Own.drewN (HO.out.alloc _) 1
    have HB1 : Hid (Below w.heap.size w ((wr.alloc (.cells #[.int .i64 qa, .int .i64 qb] 3)).drew)) := Below.drew (below_al HB.out _)
    have HL1 : Hid (Blk ((wr.alloc (.cells #[.int .i64 qa, .int .i64 qb] 3)).drew) wr.heap.size 3 #[.int .i64 qa, .int .i64 qb]) := hbk
    have HN1 : Hid (∀ k, (Value.slice A3 zs.length c3).ownBlock = some k → ¬ k = wr.heap.size) := fun k hk e => by have := HO.out.lt hk; omega
    have hlw : w.heap.size ≤ wr.heap.size := hsw
    obtain ⟨lb, hlb⟩ : ∃ lb, wr.heap.size = lb := ⟨_, rfl⟩
    rw [hlb] at HL1 HN1 hlw ⊢
    generalize (wr.alloc (.cells #[.int .i64 qa, .int .i64 qb] 3)).drew = w1 at HO1 HB1 HL1 ⊢
    obtain ⟨q, hqq⟩ : ∃ q : Int × Int, (qa, qb) = q := ⟨_, rfl⟩
    have HQQ := Lib.hid hqq
    rw [hqq] at HQ
    clear hbk hal d0' d1' hbr hb hsw hlb HO HB hqq
    go_wp2_with fail
    go_loopw [3, 6] (fun v3 v6 wr => ∃ (k : Nat), v6 = .int .i64 (k : Int) ∧ k ≤ 2 ∧ Hid (EndR w lb qa qb (EndI s i q k 0 0) v3 wr)) (fun _ v6 _ => 2 - (intOf v6).toNat)
    case atStart => exact ⟨0, rfl, by omega, zs, by show _ = _; rw [HZ.out, e2, eK, List.append_nil, List.append_nil], HO1.out, HK.out, HB1.out, HL1.out, HN1.out⟩
    case round =>
    clear HZ HO1 HK HB1 HL1 HN1
    obtain ⟨k, rfl, hk2, HR0⟩ := hrel
    obtain ⟨zs, hz, ho, hk, hb0, hbl, hnn⟩ := HR0.out
    have HZ := Lib.hid hz
    have HO := Lib.hid ho
    have HK := Lib.hid hk
    have HB := Lib.hid hb0
    have HL := Lib.hid hbl
    have HN := Lib.hid hnn
    clear hz ho hk hb0 hbl hnn HR0
    obtain ⟨A3, c3, rfl, hc3, -⟩ := HO.out.len_
    by_cases hklt : k < 2
    · go_wp2_with fail
      go_loopw [3, 7] (fun v3 v7 wr => ∃ (j : Nat), v7 = .int .i64 ((j : Int) - 1) ∧ j ≤ 3 ∧ Hid (EndR w lb qa qb (EndI s i q k (selE q k) j) v3 wr)) (fun _ v7 _ => 3 - (intOf v7 + 1).toNat)
      case atStart => exact ⟨0, rfl, by omega, zs, HZ.out, HO.out, HK.out, HB.out, HL.out, HN.out⟩
      case round =>
      clear HZ HO HK HB HL HN
      obtain ⟨j, rfl, hj3, HR0⟩ := hrel
      obtain ⟨zs, hz, ho, hk, hb0, hbl, hnn⟩ := HR0.out
      have HZ := Lib.hid hz
      have HO := Lib.hid ho
      have HK := Lib.hid hk
      have HB := Lib.hid hb0
      have HL := Lib.hid hbl
      have HN := Lib.hid hnn
      clear hz ho hk hb0 hbl hnn HR0
      obtain ⟨A3, c3, rfl, hc3, -⟩ := HO.out.len_
      have hzb : zs.length ≤ 5000 := by
        rw [HZ.out, List.length_append, List.length_append]
        have h1 := endsF_len (s.take i)
        have h2 := e2_len q k
        have h3 := eK_len (selE q k) j
        have h4 : (s.take i).length ≤ i := by rw [List.length_take]; omega
        omega
      have hsz := HB.out.size
      have hlbl := HL.out.lt
      by_cases hjlt : j < 3
      · obtain ⟨x, hx⟩ : ∃ x, (selE q k) = x := ⟨_, rfl⟩
        have HX := Lib.hid hx
        have hcx : wr.cell? ⟨lb, k, none⟩ = some (.int .i64 x) := by
          rw [← hx, ← HQQ.out]
          rcases (by omega : k = 0 ∨ k = 1) with rfl | rfl
          · exact HL.out.cell 0
          · exact HL.out.cell 1
        have HZ : Hid (EndI s i q k x j zs) := by rw [← hx]; exact HZ
        have HX' : Hid (selE q k = x) := hx
        clear hx HX
        by_cases h1 : x < -2
        · skip
          have HE : Hid (EndI s i q k x (j + 1) zs) := by show _ = _; rw [HZ.out, eK, eD_low h1 (by omega), List.append_nil]
          go_wp2_with fail
          go_roundw
          case rel => exact ⟨j + 1, by go_num, by omega, zs, by rw [HX'.out]; exact HE.out, HO.out, HK.out, HB.out, HL.out, HN.out⟩
          case measure => simp [intOf] <;> omega
        by_cases h2 : 1114113 < x
        · skip
          have HE : Hid (EndI s i q k x (j + 1) zs) := by show _ = _; rw [HZ.out, eK, eD_high h2 (by omega), List.append_nil]
          go_wp2_with fail
          go_roundw
          case rel => exact ⟨j + 1, by go_num, by omega, zs, by rw [HX'.out]; exact HE.out, HO.out, HK.out, HB.out, HL.out, HN.out⟩
          case measure => simp [intOf] <;> omega
        by_cases h3 : 0 ≤ x + ((j : Int) - 1)
        · by_cases h4 : x + ((j : Int) - 1) ≤ 1114111
          · skip
            have HE : Hid (EndI s i q k x (j + 1) (zs ++ [x + ((j : Int) - 1)])) := by show _ = _; rw [HZ.out, eK, eD_mid h1 h2, if_pos ⟨h3, h4⟩, List.append_assoc]
            clear HZ
            go_wp2_with (at_builtin; refine wpList_append_mine _ rfl (.tmp 53) (.tmp 57) _ rfl 3 i0 _ 1 8 Try.underlying38 hi0 hz0 hz1 hz2 rfl (by omega) (.slice A3 zs.length c3) zs.length (zs.map iV) rfl (by exact HO.out.alloc _) _ 1 1 [_] rfl rfl (by exact news_push rfl rfl) (by simp [Value.oneCell']) (by omega) (by simp only [maxLen]; omega) (by omega) _ rfl ?_; intro g5 o5 c5 w5 hown5 hgrow5 hat5; have HZ5 := Lib.hid (zs_snoc (z := x + ((j : Int) - 1)) hown5); have HB5 := Lib.hid (Below.grown (HB.out.alloc HB.out.size _) hgrow5 (by simp; omega) HK.out); have HK5 := Lib.hid (zs_far (o := o5) (n := zs.length + 1) (c := c5) (B := w.heap.size) HK.out hat5 (by simp; omega)); have ho5 : Only (fun k => (Value.slice A3 zs.length c3).ownBlock = some k) wr w5 := ((Only.refl _ wr).alloc _).grown hgrow5 (fun k hk _ => hk); have HL5 := Lib.hid (HL.out.only ho5 (fun h => HN.out _ h rfl)); have HN5 := Lib.hid (ne_far (o := o5) (n := zs.length + 1) (c := c5) HN.out hat5 (by simp; omega)); clear hown5 hgrow5 hat5 ho5)
            go_roundw
            case rel => exact ⟨j + 1, by go_num, by omega, zs ++ [x + ((j : Int) - 1)], by rw [HX'.out]; exact HE.out, HZ5.out, HK5.out, HB5.out, HL5.out, HN5.out⟩
            case measure => simp [intOf] <;> omega
          · skip
            have HE : Hid (EndI s i q k x (j + 1) zs) := by show _ = _; rw [HZ.out, eK, eD_mid h1 h2, if_neg (fun h => h4 h.2), List.append_nil]
            go_wp2_with fail
            go_roundw
            case rel => exact ⟨j + 1, by go_num, by omega, zs, by rw [HX'.out]; exact HE.out, HO.out, HK.out, HB.out, HL.out, HN.out⟩
            case measure => simp [intOf] <;> omega
        · skip
          have HE : Hid (EndI s i q k x (j + 1) zs) := by show _ = _; rw [HZ.out, eK, eD_mid h1 h2, if_neg (fun h => h3 h.1), List.append_nil]
          go_wp2_with fail
          go_roundw
          case rel => exact ⟨j + 1, by go_num, by omega, zs, by rw [HX'.out]; exact HE.out, HO.out, HK.out, HB.out, HL.out, HN.out⟩
          case measure => simp [intOf] <;> omega
      · obtain rfl : j = 3 := by omega
        have HE : Hid (EndI s i q (k + 1) 0 0 zs) := by show _ = _; rw [HZ.out, e2, eK, List.append_nil, List.append_assoc]; rfl
        clear HZ
        go_wp2_with fail
        go_roundw
        case rel => exact ⟨k + 1, by go_num, by omega, zs, HE.out, HO.out, HK.out, HB.out, HL.out, HN.out⟩
        case measure => simp [intOf] <;> omega
    · obtain rfl : k = 2 := by omega
      have HE : Hid (zs = endsF (s.take (i + 1))) := by show _ = _; rw [HZ.out, endsF_take HQ.out, eK, List.append_nil]
      clear HZ HL HN
      go_wp2_with fail
      go_roundw
      case rel => exact ⟨i + 1, by go_num, by omega, zs, HE.out, HO.out, HK.out, HB.out⟩
      case measure => simp [intOf] <;> omega
  · have HE : Hid (zs = endsF s) := by show _ = _; rw [HZ.out, List.take_of_length_le (by rw [HLN.out]; omega)]
    clear HZ
    go_wp2_with fail
    go_ret
    exact ⟨_, rfl, by rw [← HE.out]; exact HO.out, HK.out, HB.out⟩
end Go.Proofs.Ytjfkppbfckgckaa
