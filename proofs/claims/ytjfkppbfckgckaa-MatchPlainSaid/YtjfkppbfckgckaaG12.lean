/-
  the contracts of match.Longest and of match.First, and of all three of a program that isn't right; the contract of reedbedref10.Run; the contract of reedbedref10.Run: its walk; no condition beyond those that each theorem states.
-/
import Derived.Test.YtjfkppbfckgckaaG11
import Derived.Deep.Cut
import Derived.BigQuiet
set_option linter.unusedVariables false
set_option linter.unusedSimpArgs false
namespace Go.Proofs.Ytjfkppbfckgckaa
open Go.RowKit Go.Rb
attribute [local irreducible] Go.wpQuiet
set_option maxRecDepth 20000

/-- The end of the longest match from a number on. -/
def LongIs (s : ByteArray) (L : Nat → Option Nat) (z : Int) (r : Option Nat) : Prop := (∀ k, k ≤ (decT s).length → (AtF (decT s) k : Int) = z → r = L k) ∧ ((∀ k, k ≤ (decT s).length → (AtF (decT s) k : Int) ≠ z) → r = none)
def longV (s : ByteArray) : Option Nat → Value
  | none => .tuple #[.int .i64 0, .bool false]
  | some e => .tuple #[.int .i64 (AtF (decT s) e : Int), .bool true]
theorem LongIs.fn {s : ByteArray} {L : Nat → Option Nat} {z : Int} {r r' : Option Nat} (h : LongIs s L z r) (h' : LongIs s L z r') : r = r' := by
  by_cases hk : ∃ k, k ≤ (decT s).length ∧ (AtF (decT s) k : Int) = z
  · obtain ⟨k, h1, h2⟩ := hk
    rw [h.1 k h1 h2, h'.1 k h1 h2]
  · have hn : ∀ k, k ≤ (decT s).length → (AtF (decT s) k : Int) ≠ z := fun k h1 h2 => hk ⟨k, h1, h2⟩
    rw [h.2 hn, h'.2 hn]
set_option maxHeartbeats 4000000 in
theorem longM_any {p : List Ins} {n : Nat} (hn : p.length = n) (hn0 : 0 < n) (hn2 : n ≤ 2000) (hok : RightI p) (hset : ∀ (i : Nat) (t : Ins), p[i]? = some t → t.set.length ≤ 1000) {s : ByteArray} (hs8 : s.size ≤ 60) {A : Option Addr} {cp : Nat} (hcp : n ≤ cp) {L : Nat → Option Nat} (hL : ∀ k, k ≤ (decT s).length → IsLast p (rsL s) k (L k)) (z : Int) (w : World) {B : Nat} (hB : B ≤ w.heap.size) (hP : PRd w B A p) :
    Calls Try.prog 15 #[.slice A n cp, .string s, .int .i64 z] w fun e w' => (∃ r, LongIs s L z r ∧ e = .returned (longV s r)) ∧ Below w.heap.size w w' := by
  have hml := decT_len s
  have HRT : Hid (Calls Try.prog 26 #[.slice A n cp] w fun e w' => e = .returned (.bool true) ∧ Below w.heap.size w w') := by
    have h := progRight_any (p.map toIn) A n cp w (hP.ins hB) (by simp [hn]) (by omega) hcp
    rw [(rightP_iff hn).2 ⟨hok, hn0⟩] at h
    exact h
  have HLONG := Lib.hid (fun (B c : Nat) (k0 : Nat) (hk0 : k0 ≤ (decT s).length) (W : World) (N' : Int) (S' : Nat → Prop) (hC' : CrewS W B c A cp s n N' S') (hN' : N' ≤ 100000000) (hP' : PRd W B A p) => longest_any hn hn0 hn2 hok hset (by omega : s.size ≤ 800) hcp k0 hk0 W hC' hN' hP')
  obtain ⟨m, hm⟩ : ∃ m, (decT s).length = m := ⟨_, rfl⟩
  have HM := Lib.hid hm
  have HP := Lib.hid hP
  have HBW := Lib.hid hB
  have HL := Lib.hid hL
  rw [hm] at hml HL
  have hAs : ∀ k, k ≤ m → AtF (decT s) k ≤ s.size := fun k hk => AtF_size s k (by omega)
  have HAS := Lib.hid hAs
  clear hn hok hset hL hP hB hm hAs
  by_cases hz : z < 0 ∨ (s.size : Int) < z
  · have HNO : Hid (LongIs s L z none) := ⟨fun k hk e => by have := HAS.out k (by rw [← HM.out]; exact hk); omega, fun _ => rfl⟩
    by_cases hz1 : z < 0
    · go_enter Try.func15, Try.ntmps15
      go_wp2_with fail
      refine HRT.out.mono ?_
      rintro e1 w1 ⟨rfl, hb1⟩
      have HB1 := Lib.hid hb1
      clear hb1 HRT hz
      go_wp2_with fail
      go_returns
      exact ⟨⟨none, HNO.out, rfl⟩, HB1.out⟩
    · have hz2 : (s.size : Int) < z := hz.resolve_left hz1
      go_enter Try.func15, Try.ntmps15
      go_wp2_with fail
      refine HRT.out.mono ?_
      rintro e1 w1 ⟨rfl, hb1⟩
      have HB1 := Lib.hid hb1
      clear hb1 HRT hz
      go_wp2_with fail
      go_returns
      exact ⟨⟨none, HNO.out, rfl⟩, HB1.out⟩
  have hz1 : ¬ z < 0 := fun h => hz (.inl h)
  have hz2 : ¬ (s.size : Int) < z := fun h => hz (.inr h)
  clear hz
  go_enter Try.func15, Try.ntmps15
  go_wp2_with fail
  refine HRT.out.mono ?_
  rintro e1 w1 ⟨rfl, hb1⟩
  have HB1 := Lib.hid hb1
  have HPL := Lib.hid (places_any s w1 (by omega))
  clear hb1 HRT
  go_wp2_with fail
  refine HPL.out.mono ?_
  rintro e3 w3 ⟨v, rfl, hzs, hk, hb3⟩
  obtain ⟨q, off, cc, rfl, hcc, hob, hpv⟩ := pv_new hzs
  rw [HM.out] at hcc hpv ⊢
  obtain ⟨off', hoff, hq3, hcell⟩ := hpv.at_ (by omega)
  simp only [Option.some.injEq, Addr.mk.injEq, true_and, and_true] at hoff
  subst hoff
  have HCELL := Lib.hid hcell
  have HB3 := Lib.hid (below_trans HB1.out hb3)
  clear hzs hk hb3 hob hpv hcell HPL
  go_wp2_with fail
  go_loopw [27] (fun iv wr => ∃ j : Nat, iv = .int .i64 (j : Int) ∧ j ≤ m + 1 ∧ wr = w3 ∧ Hid (∀ k, k < j → (AtF (decT s) k : Int) ≠ z)) (fun iv _ => m + 1 - (intOf iv).toNat)
  case atStart => exact ⟨0, rfl, by omega, rfl, fun k h => by omega⟩
  case round =>
  obtain ⟨j, rfl, hjm, hw, HNE⟩ := hrel
  subst hw
  by_cases hj : j < m + 1
  · have c0 := HCELL.out j hj
    rw [Nat.zero_add] at c0
    obtain ⟨xa, hxa⟩ : ∃ xa, AtF (decT s) j = xa := ⟨_, rfl⟩
    have HXA := Lib.hid hxa
    rw [hxa] at c0
    clear hxa
    by_cases he : (xa : Int) = z
    · subst he
      have HBG := Lib.hid (begun_any A n cp s wr hn2)
      go_wp2_with fail
      refine HBG.out.mono ?_
      rintro e2 w2 ⟨c, ta, ma, tb, mb, rfl, hcr, hb2⟩
      have hs3 := HB3.out.size
      have hcall := HLONG.out wr.heap.size c j (by rw [HM.out]; omega) w2 0 _ (crewS_new hcr) (by omega) (((HP.out.below (HB3.out.mono HBW.out)).more (Nat.le_trans HBW.out hs3)).below hb2)
      rw [HXA.out] at hcall
      have HCALL := Lib.hid hcall
      have HB2 := Lib.hid (below_trans HB3.out hb2)
      have HBW2 := Lib.hid hcr.cB
      have HBS : Hid (∀ k, CS c ta ma tb mb (.slice none 0 0) (.slice none 0 0) k → w.heap.size ≤ k) := fun k hk => Nat.le_trans hs3 (hcr.cs_lt k hk).2
      clear hcr hb2 hcall HBG
      go_wp2_with fail
      refine HCALL.out.mono ?_
      rintro e4 w4 ⟨o, ho, rfl, S4, -, hO4, -⟩
      have hoL : o = L j := IsLast.fn ho (HL.out j (by omega))
      have HB4 : Hid (Below w.heap.size w w4) := HB2.out.trans (hO4.below HB2.out.size HBS.out)
      have HIS : Hid (LongIs s L (xa : Int) o) := by
        refine ⟨fun k hk e => ?_, fun h => absurd (by rw [HXA.out]) (h j (by rw [HM.out]; omega))⟩
        have : k = j := AtF_inj s hk (by rw [HM.out]; omega) (by rw [HXA.out]; omega)
        rw [this, hoL]
      clear hO4 ho hoL HCALL
      cases o with
      | none =>
        unfold endV
        go_wp2_with fail
        go_returns
        exact ⟨⟨none, HIS.out, rfl⟩, HB4.out⟩
      | some e =>
        rw [show endV s (some e) = .int .i64 (AtF (decT s) e : Int) from rfl]
        obtain ⟨xe, hxe⟩ : ∃ xe, AtF (decT s) e = xe := ⟨_, rfl⟩
        have HXE := Lib.hid hxe
        rw [hxe]
        clear hxe
        have hmx : max (xe : Int) 0 = (xe : Int) := Int.max_eq_left (by omega)
        go_wp2_with fail
        go_returns
        exact ⟨⟨some e, HIS.out, by rw [longV, HXE.out]; try simp [hmx]⟩, HB4.out⟩
    · have HNE2 : Hid (∀ k, k < j + 1 → (AtF (decT s) k : Int) ≠ z) := fun k h => by
        rcases Nat.lt_or_ge k j with h' | h'
        · exact HNE.out k h'
        · obtain rfl : k = j := by omega
          rw [HXA.out]; exact he
      have he2 : ((xa : Int) == z) = false := by simpa using he
      go_wp2_with fail
      go_roundw
      case rel => exact ⟨j + 1, by go_num, by omega, trivial, HNE2.out⟩
      case measure => simp [intOf] <;> omega
  · have HNO : Hid (LongIs s L z none) := ⟨fun k hk e => absurd e (HNE.out k (by rw [HM.out] at hk; omega)), fun _ => rfl⟩
    go_wp2_with fail
    go_returns
    exact ⟨⟨none, HNO.out, rfl⟩, HB3.out⟩
end Go.Proofs.Ytjfkppbfckgckaa
namespace Go.Proofs.Ytjfkppbfckgckaa
open Go.RowKit Go.Rb
attribute [local irreducible] Go.wpQuiet
set_option maxRecDepth 20000

def tdC (l : List (Nat × Nat)) : List Value := l.flatMap fun c => [.int .i64 (c.1 : Int), .int .i64 (c.2 : Int)]
def TdO (w : World) (v : Value) (l : List (Nat × Nat)) : Prop := Own w 95 2 v l.length (tdC l)
theorem tdC_len (l : List (Nat × Nat)) : (tdC l).length = l.length * 2 := by
  induction l with
  | nil => rfl
  | cons a l ih => rw [tdC, List.flatMap_cons, List.length_append, ← tdC, ih]; simp; omega
theorem tdC_snoc (l : List (Nat × Nat)) (c : Nat × Nat) : tdC (l ++ [c]) = tdC l ++ [.int .i64 (c.1 : Int), .int .i64 (c.2 : Int)] := by simp [tdC]
def isF : Value → Bool
  | .bool b => !b
  | _ => false
def cntF (w : World) (g : Nat) : Nat := match w.heap[g]? with
  | some (.cells cs _ _) => cs.toList.countP isF
  | _ => 0
def bV_ (b : Bool) : Value := .bool b
theorem cntF_blk {w : World} {g : Nat} {t : TypeId} {l : List Bool} (h : Blk w g t (l.map bV_).toArray) : cntF w g = l.countP (fun b => !b) := by
  unfold Blk at h
  unfold cntF
  rw [h]
  simp only [List.countP_map]
  rfl
theorem cnt_true {l : List Bool} {i : Nat} (hi : l[i]? = some false) : (l.set i true).countP (fun b => !b) + 1 = l.countP (fun b => !b) := by
  induction l generalizing i with
  | nil => simp at hi
  | cons a l ih =>
    cases i with
    | zero =>
      obtain rfl : a = false := by simpa using hi
      simp
    | succ i =>
      have := ih (i := i) (by simpa using hi)
      simp only [List.set_cons_succ, List.countP_cons]
      omega
/-- What is seen, of N places. -/
def seenB (sn : List Bool) (n N : Nat) : Nat → Nat → Prop := fun i k => i < n ∧ k < N ∧ sn[i * N + k]? = some true
theorem idx_lt {i k n N : Nat} (hi : i < n) (hk : k < N) : i * N + k < n * N := by
  have : (i + 1) * N ≤ n * N := Nat.mul_le_mul_right _ hi
  rw [Nat.add_mul, Nat.one_mul] at this
  omega
theorem idx_inj {i k i' k' N : Nat} (hk : k < N) (hk' : k' < N) (h : i * N + k = i' * N + k') : i = i' ∧ k = k' := by
  have h1 : i = i' := by
    have a : (i * N + k) / N = (i' * N + k') / N := by rw [h]
    rw [Nat.add_comm, Nat.add_mul_div_right _ _ (by omega), Nat.div_eq_of_lt hk, Nat.add_comm (i' * N), Nat.add_mul_div_right _ _ (by omega), Nat.div_eq_of_lt hk'] at a
    omega
  subst h1
  exact ⟨rfl, by omega⟩
theorem seenB_set {sn : List Bool} {n N i k : Nat} (hl : sn.length = n * N) (hi : i < n) (hk : k < N) : seenB (sn.set (i * N + k) true) n N = fun a b => seenB sn n N a b ∨ (a = i ∧ b = k) := by
  funext a b
  unfold seenB
  apply propext
  have hlt := idx_lt hi hk
  constructor
  · rintro ⟨h1, h2, h3⟩
    rw [List.getElem?_set] at h3
    by_cases he : i * N + k = a * N + b
    · obtain ⟨rfl, rfl⟩ := idx_inj hk h2 he
      exact .inr ⟨rfl, rfl⟩
    · rw [if_neg he] at h3
      exact .inl ⟨h1, h2, h3⟩
  · rintro (⟨h1, h2, h3⟩ | ⟨rfl, rfl⟩)
    · refine ⟨h1, h2, ?_⟩
      rw [List.getElem?_set]
      split
      · rw [if_pos (by omega)]
      · exact h3
    · exact ⟨hi, hk, by rw [List.getElem?_set_self (by omega)]⟩
theorem own_init {w : World} {v : Value} {n : Nat} {xs : List Value} (h : Own w 95 2 v (n + 1) xs) : ∃ g off c, v = .slice (some ⟨g, off, none⟩) (n + 1) c ∧ n + 1 ≤ c ∧ g < w.heap.size ∧ w.cell? ⟨g, off + n * 2, none⟩ = xs[n * 2]? ∧ w.cell? ⟨g, off + n * 2 + 1, none⟩ = xs[n * 2 + 1]? ∧
    (∀ W, (Instr.slice 96 (.slice (some ⟨g, off, none⟩) (n + 1) c) none (some (.int .i64 (n : Int))) none).run Try.prog W = .ok (.slice (some ⟨g, off, none⟩) n c) W) ∧ Own w 95 2 (.slice (some ⟨g, off, none⟩) n c) n (xs.take (n * 2)) := by
  obtain ⟨g, off, c, rfl, hc, hcm, hg, hcell, -⟩ := h.form (by omega)
  have hs : ∀ W, (sizeOf (Try.prog.elem 96)).run Try.prog W = .ok 2 W := fun W => by kernel_rfl
  refine ⟨g, off, c, rfl, hc, hg, hcell (n * 2) (by omega), by rw [Nat.add_assoc]; exact hcell (n * 2 + 1) (by omega), fun W => ?_, ?_⟩
  · rw [run_slice_h (P := Try.prog) W 96 (some ⟨g, off, none⟩) (n + 1) c Try.underlying96 .i64 (n : Int) (by omega) (by omega), hs W]
    simp [Result.andThen, sliced, Rb.add_plain]
  · rcases h.2 with ⟨h0, _⟩ | ⟨g', off', cap, cur, e, hg', hnc, hcm', hsz, hx⟩
    · simp at h0
    · simp only [Value.slice.injEq, Option.some.injEq, Addr.mk.injEq, true_and, and_true] at e
      obtain ⟨⟨rfl, rfl⟩, rfl⟩ := e
      refine ⟨by rw [List.length_take, h.1]; omega, .inr ⟨g, off, c, cur, rfl, hg', by omega, hcm', hsz, ?_⟩⟩
      rw [← hx, List.take_take]
      congr 1
      omega
theorem infoP : (Try.prog.info? 95).map (fun i => (i.zero, i.size, i.bytes)) = some (some (.agg #[.int .i64 0, .int .i64 0]), 2, 16) := by kernel_rfl
/-- Where Run is. -/
structure RunM (w : World) (gs go : Nat) (v : Value) (p : List Ins) (rs : List Int) (k0 n N : Nat) (sn ot : List Bool) (td : List (Nat × Nat)) : Prop where
  bs : Blk w gs 4 (sn.map bV_).toArray
  bo : Blk w go 4 (ot.map bV_).toArray
  ls : sn.length = n * N
  lo : ot.length = N
  tdo : TdO w v td
  ri : RunI p rs k0 (seenB sn n N) td (fun k => ot[k]? = some true)
  bd : ∀ c ∈ td, c.1 < n ∧ c.2 < N
  ms : 3 * sn.countP (fun b => !b) + td.length ≤ 3 * (n * N) + 1
theorem countP_rep (m : Nat) : (List.replicate m false).countP (fun b => !b) = m := by
  rw [List.countP_replicate]; simp
theorem RunM.start {w' : World} {p : List Ins} {rs : List Int} {k0 n N gs go : Nat} {v : Value} (hgs : Blk w' gs 4 (madeCells #[.bool false] (n * N))) (hgo : Blk w' go 4 (madeCells #[.bool false] N)) (htd : TdO w' v [(0, k0)]) (hn : 0 < n) (hk : k0 < N) :
    RunM w' gs go v p rs k0 n N (List.replicate (n * N) false) (List.replicate N false) [(0, k0)] := by
  have e : ∀ m, ((List.replicate m false).map bV_).toArray = madeCells #[.bool false] m := fun m => by
    apply Array.toList_inj.1
    rw [toList_madeCells_one]
    simp [bV_]
  refine ⟨by rw [e]; exact hgs, by rw [e]; exact hgo, by simp, by simp, htd, ?_, fun c hc => ?_, by rw [countP_rep]; simp⟩
  · have h1 : seenB (List.replicate (n * N) false) n N = fun _ _ => False := by
      funext a b
      apply propext
      refine ⟨fun ⟨_, _, h⟩ => ?_, False.elim⟩
      rw [List.getElem?_replicate] at h
      split at h <;> simp at h
    have h2 : (fun k : Nat => (List.replicate N false)[k]? = some true) = fun _ => False := by
      funext k
      apply propext
      refine ⟨fun h => ?_, False.elim⟩
      rw [List.getElem?_replicate] at h
      split at h <;> simp at h
    rw [h1, h2]
    exact .start p rs k0
  · obtain rfl : c = (0, k0) := by simpa using hc
    exact ⟨hn, hk⟩
theorem succs_bd {p : List Ins} {rs : List Int} {n N i k : Nat} (hok : RightI p) (hn : p.length = n) (hN : rs.length + 1 = N) (hk : k < N) : (succs p rs i k).length ≤ 2 ∧ ∀ c ∈ succs p rs i k, c.1 < n ∧ c.2 < N := by
  unfold succs eps nxt
  cases hp : p[i]? with
  | none => simp
  | some t =>
    obtain ⟨h1, h2, h3, h4⟩ := hok i t hp
    rw [hn] at h3 h4
    simp only
    by_cases o2 : t.op = 2
    · have := h3 (by omega)
      have := h4 o2
      rw [if_pos o2, if_neg (by omega)]
      simp only [List.map_nil, List.append_nil, List.map_cons, List.length_cons, List.length_nil, List.mem_cons, List.not_mem_nil, or_false]
      refine ⟨by omega, ?_⟩
      rintro c (rfl | rfl)
      · exact ⟨by simp only; omega, hk⟩
      · exact ⟨by simp only; omega, hk⟩
    rw [if_neg o2]
    by_cases o3 : t.op = 3
    · have := h3 (by omega)
      rw [if_pos o3, if_neg (show ¬ t.op = 1 by omega)]
      split
      · simp only [List.map_nil, List.append_nil, List.map_cons, List.length_cons, List.length_nil, List.mem_cons, List.not_mem_nil, or_false]
        refine ⟨by omega, ?_⟩
        rintro c rfl
        exact ⟨by simp only; omega, hk⟩
      · simp
    rw [if_neg o3]
    by_cases o4 : t.op = 4
    · have := h3 (by omega)
      rw [if_pos o4, if_neg (show ¬ t.op = 1 by omega)]
      split
      · simp only [List.map_nil, List.append_nil, List.map_cons, List.length_cons, List.length_nil, List.mem_cons, List.not_mem_nil, or_false]
        refine ⟨by omega, ?_⟩
        rintro c rfl
        exact ⟨by simp only; omega, hk⟩
      · simp
    rw [if_neg o4]
    by_cases o1 : t.op = 1
    · have := h3 (by omega)
      rw [if_pos o1]
      split
      · rename_i r hr
        have := (List.getElem?_eq_some_iff.1 hr).1
        split
        · simp only [List.map_nil, List.nil_append, List.map_cons, List.length_cons, List.length_nil, List.mem_cons, List.not_mem_nil, or_false]
          refine ⟨by omega, ?_⟩
          rintro c rfl
          exact ⟨by simp only; omega, by simp only; omega⟩
        · simp
      · simp
    · rw [if_neg o1]; simp
section
variable {w w' : World} {gs go : Nat} {v v' : Value} {p : List Ins} {rs : List Int} {k0 n N i k : Nat} {sn ot : List Bool} {l : List (Nat × Nat)}
theorem RunM.pop (h : RunM w gs go v p rs k0 n N sn ot (l ++ [(i, k)])) (hs : sn[i * N + k]? = some true) (hb : Blk w' gs 4 (sn.map bV_).toArray) (ho : Blk w' go 4 (ot.map bV_).toArray) (hv : TdO w' v' l) : RunM w' gs go v' p rs k0 n N sn ot l := by
  obtain ⟨h1, h2⟩ := h.bd (i, k) (by simp)
  refine ⟨hb, ho, h.ls, h.lo, hv, h.ri.skip ⟨h1, h2, hs⟩, fun c hc => h.bd c (List.mem_append_left _ hc), ?_⟩
  have := h.ms
  simp only [List.length_append, List.length_cons, List.length_nil] at this
  omega
theorem RunM.visit (h : RunM w gs go v p rs k0 n N sn ot (l ++ [(i, k)])) (hs : sn[i * N + k]? = some false) {t : Ins} (ht : p[i]? = some t) (hok : RightI p) (hn : p.length = n) (hN : rs.length + 1 = N) {ot' : List Bool} (hot : ot' = if t.op = 0 then ot.set k true else ot)
    (hb : Blk w' gs 4 ((sn.set (i * N + k) true).map bV_).toArray) (ho : Blk w' go 4 (ot'.map bV_).toArray) (hv : TdO w' v' (l ++ succs p rs i k)) : RunM w' gs go v' p rs k0 n N (sn.set (i * N + k) true) ot' (l ++ succs p rs i k) := by
  obtain ⟨h1, h2⟩ := h.bd (i, k) (by simp)
  obtain ⟨h3, h4⟩ := succs_bd (i := i) (k := k) hok hn hN h2
  have hri := h.ri.visit ht
  have hseen := seenB_set h.ls h1 h2
  have hout : (fun q => ot'[q]? = some true) = fun b => ot[b]? = some true ∨ (t.op = 0 ∧ b = k) := by
    funext b
    apply propext
    subst hot
    by_cases h0 : t.op = 0
    · rw [if_pos h0, List.getElem?_set]
      by_cases hbk : k = b
      · subst hbk
        rw [if_pos rfl, if_pos (by rw [h.lo]; exact h2)]
        simp [h0]
      · rw [if_neg hbk]
        constructor
        · exact .inl
        · rintro (h | ⟨_, h⟩)
          · exact h
          · exact absurd h.symm hbk
    · rw [if_neg h0]
      simp [h0]
  refine ⟨hb, ho, by simp [h.ls], by subst hot; split <;> simp [h.lo], hv, by rw [hseen, hout]; exact hri, fun c hc => ?_, ?_⟩
  · rcases List.mem_append.1 hc with hc | hc
    · exact h.bd c (List.mem_append_left _ hc)
    · exact h4 c hc
  · have hm := h.ms
    have hc := cnt_true hs
    simp only [List.length_append, List.length_cons, List.length_nil] at hm ⊢
    omega
end
end Go.Proofs.Ytjfkppbfckgckaa
namespace Go.Proofs.Ytjfkppbfckgckaa
open Go.RowKit Go.Rb
attribute [local irreducible] Go.wpQuiet
set_option maxRecDepth 20000

theorem infoB : (Try.prog.info? 4).map (fun i => (i.zero, i.size, i.bytes)) = some (some (.bool false), 1, 1) := by kernel_rfl
/-- What Run answers. -/
def RetRun (p : List Ins) (rs : List Int) (k0 : Nat) (w : World) (e : Ending) (w' : World) : Prop := ∃ (go : Nat) (ot : List Bool), e = .returned (.slice (some ⟨go, 0, none⟩) (rs.length + 1) (rs.length + 1)) ∧ Blk w' go 4 (ot.map bV_).toArray ∧ ot.length = rs.length + 1 ∧ (∀ k : Nat, ot[k]? = some true ↔ Acc p rs k0 k) ∧ w.heap.size ≤ go ∧ Below w.heap.size w w'
theorem tdC_app (a b : List (Nat × Nat)) : tdC (a ++ b) = tdC a ++ tdC b := by simp [tdC]
theorem run_step {w w3 w7 : World} {gs g7 o7 c7 n7 L : Nat} {v : Value} {xs : List Value} {sa oa : Array Value} {ob : Obj} (hg : Blk w3 gs 4 sa) (ho : Blk w3 (gs + 1) 4 oa) (ht : Own w3 95 2 v L xs) (hk : ∀ q, v.ownBlock = some q → w.heap.size ≤ q) (hb : Below w.heap.size w w3)
    (hgr : (w3.alloc ob).grownBy w7 v.ownBlock) (hat : v.ownBlock = some g7 ∨ g7 = w3.heap.size + 1) : Blk w7 gs 4 sa ∧ Blk w7 (gs + 1) 4 oa ∧ (∀ q, (Value.slice (some ⟨g7, o7, none⟩) n7 c7).ownBlock = some q → w.heap.size ≤ q) ∧ Below w.heap.size w w7 := by
  have hs := hb.size
  refine ⟨(hg.alloc ob).grown hgr (fun e => own_blk_ne ht hg (by decide) e.symm), (ho.alloc ob).grown hgr (fun e => own_blk_ne ht ho (by decide) e.symm), zs_far hk hat (by omega), Below.grown (hb.alloc hs ob) hgr (by simp; omega) hk⟩
set_option maxHeartbeats 8000000 in
theorem run_any {p : List Ins} {n : Nat} (hn : p.length = n) (hn0 : 0 < n) (hn2 : n ≤ 200) (hok : RightI p) (hset : ∀ (i : Nat) (t : Ins), p[i]? = some t → t.set.length ≤ 1000) {rs : List Int} {m : Nat} (hm : rs.length = m) (hm2 : m ≤ 100) {A Ar : Option Addr} {cp cr : Nat} (hcp : n ≤ cp) (hcr : m ≤ cr) (k0 : Nat) (hk0 : k0 ≤ m) (w : World) {B : Nat} (hB : B ≤ w.heap.size) (hP : PRd w B A p) (hR : Rd w B 1 Ar m (rs.map iV)) :
    Calls Try.prog 34 #[.slice A n cp, .slice Ar m cr, .int .i64 (k0 : Int)] w (RetRun p rs k0 w) := by
  obtain ⟨i0, hi0, hz0, hz1, hz2⟩ := info_parts infoB
  obtain ⟨j0, hj0, hjz0, hjz1, hjz2⟩ := info_parts infoP
  have hnm : n * (m + 1) ≤ 200 * 101 := Nat.mul_le_mul hn2 (by omega)
  have hcast : ((m : Int) + 1) * (n : Int) = ((n * (m + 1) : Nat) : Int) := by push_cast; rw [Int.mul_comm]
  obtain ⟨T, hT⟩ : ∃ T, n * (m + 1) = T := ⟨_, rfl⟩
  rw [hT] at hnm hcast
  have hc1 : 0 ≤ ((m : Int) + 1) * (n : Int) := by rw [hcast]; omega
  have hc2 : ((m : Int) + 1) * (n : Int) ≤ 20200 := by rw [hcast]; omega
  have km1 : ∀ W : World, (Instr.makeSlice 30 (.int .i64 (((m : Int) + 1) * (n : Int))) (.int .i64 (((m : Int) + 1) * (n : Int)))).run Try.prog W = .ok (.slice (some ⟨W.heap.size, 0, none⟩) T T) (W.alloc (.cells (madeCells #[.bool false] T) 4)) := by
    intro W
    have := run_make (P := Try.prog) W 30 4 i0 _ Try.underlying30 hi0 hz0 .i64 .i64 T T (by omega) (by omega) (by rw [hz2]; omega) (by omega)
    rw [hz1] at this
    simp only [Int.toNat_natCast, Nat.mul_one] at this
    rw [hcast]
    exact this
  have km2 : ∀ W : World, (Instr.makeSlice 30 (.int .i64 ((m : Int) + 1)) (.int .i64 ((m : Int) + 1))).run Try.prog W = .ok (.slice (some ⟨W.heap.size, 0, none⟩) (m + 1) (m + 1)) (W.alloc (.cells (madeCells #[.bool false] (m + 1)) 4)) := by
    intro W
    have := run_make (P := Try.prog) W 30 4 i0 _ Try.underlying30 hi0 hz0 .i64 .i64 ((m + 1 : Nat) : Int) ((m + 1 : Nat) : Int) (by omega) (by omega) (by rw [hz2]; omega) (by omega)
    rw [hz1] at this
    simp only [Int.toNat_natCast, Nat.mul_one] at this
    exact this
  have HN := Lib.hid hn
  have HOK := Lib.hid hok
  have HSET := Lib.hid hset
  have HMR := Lib.hid hm
  have HP := Lib.hid hP
  have HRD := Lib.hid hR
  have HTT := Lib.hid hT
  have HBW := Lib.hid hB
  clear hn hok hset hm hP hR hT hcast hB
  go_enter Try.func34, Try.ntmps34
  go_wp2_with fail
  have hb0 : Below w.heap.size w (((w.alloc (.cells (madeCells #[.bool false] T) 4)).alloc (.cells (madeCells #[.bool false] (m + 1)) 4)).alloc (.cells #[.int .i64 0, .int .i64 (k0 : Int)] 95)) := ((below_al (Below.refl _ _) _).alloc (by simp) _).alloc (by simp; omega) _
  have hm0 : RunM (((w.alloc (.cells (madeCells #[.bool false] T) 4)).alloc (.cells (madeCells #[.bool false] (m + 1)) 4)).alloc (.cells #[.int .i64 0, .int .i64 (k0 : Int)] 95)) w.heap.size (w.heap.size + 1) (.slice (some ⟨w.heap.size + 1 + 1, 0, none⟩) 1 1) p rs k0 n (m + 1) (List.replicate (n * (m + 1)) false) (List.replicate (m + 1) false) [(0, k0)] := by
    have e1 := Blk.new w 4 (madeCells #[.bool false] T)
    have e2 := Blk.new (w.alloc (.cells (madeCells #[.bool false] T) 4)) 4 (madeCells #[.bool false] (m + 1))
    have e3 := Own.lit ((w.alloc (.cells (madeCells #[.bool false] T) 4)).alloc (.cells (madeCells #[.bool false] (m + 1)) 4)) 95 2 1 #[.int .i64 0, .int .i64 (k0 : Int)] rfl (by decide)
    refine RunM.start (by rw [HTT.out]; exact (e1.alloc _).alloc _) (by simpa using e2.alloc _) (by simpa [TdO, tdC] using e3) hn0 (by omega)
  generalize ((w.alloc (.cells (madeCells #[.bool false] T) 4)).alloc (.cells (madeCells #[.bool false] (m + 1)) 4)).alloc (.cells #[.int .i64 0, .int .i64 (k0 : Int)] 95) = w0 at hb0 hm0 ⊢
  obtain ⟨gs, hgs⟩ : ∃ gs, w.heap.size = gs := ⟨_, rfl⟩
  have HGS := Lib.hid hgs
  rw [hgs] at hm0 ⊢
  have HB0 := Lib.hid hb0
  have HM0 := Lib.hid hm0
  clear hb0 hm0 hgs km1 km2
  go_loopw [10] (fun v wr => ∃ (td : List (Nat × Nat)) (sn ot : List Bool), Hid (RunM wr gs (gs + 1) v p rs k0 n (m + 1) sn ot td) ∧ Hid (∀ q, v.ownBlock = some q → w.heap.size ≤ q) ∧ Hid (Below w.heap.size w wr)) (fun v wr => 3 * cntF wr gs + (match v with | .slice _ l _ => l | _ => 0))
  case atStart => exact ⟨[(0, k0)], _, _, HM0.out, fun q hq => by have : gs + 1 + 1 = q := (by simpa [Value.ownBlock] using hq); have := HGS.out; omega, HB0.out⟩
  case round =>
  obtain ⟨td, sn, ot, HM, HK, HB⟩ := hrel
  rcases List.eq_nil_or_concat td with rfl | ⟨l, ik, htd⟩
  · obtain ⟨A', c', rfl, -, -⟩ := Own.len_ HM.out.tdo
    have HF : Hid (∀ k : Nat, ot[k]? = some true ↔ Acc p rs k0 k) := fun k => HM.out.ri.fin k
    go_wp2_with fail
    go_returns
    refine ⟨gs + 1, ot, by rw [HMR.out]; rfl, HM.out.bo, by rw [HM.out.lo, HMR.out], HF.out, by have := HGS.out; omega, HB.out⟩
  · rw [List.concat_eq_append] at htd
    subst htd
    obtain ⟨i, k⟩ := ik
    obtain ⟨L, hLl⟩ : ∃ L, l.length = L := ⟨_, rfl⟩
    have hbd := HM.out.bd (i, k) (by simp)
    have hi : i < n := hbd.1
    have hk : k < m + 1 := hbd.2
    have htdo := HM.out.tdo
    have htl : (l ++ [(i, k)]).length = L + 1 := by simp [hLl]
    unfold TdO at htdo
    rw [htl] at htdo
    obtain ⟨g, off, c, rfl, hc, hgl, c0, c1, hsl, hown⟩ := own_init htdo
    have hlc : (tdC l).length = L * 2 := by rw [tdC_len, hLl]
    rw [tdC_snoc, List.getElem?_append_right (by omega), hlc, Nat.sub_self] at c0
    rw [tdC_snoc, List.getElem?_append_right (by omega), hlc, Nat.add_sub_cancel_left] at c1
    rw [tdC_snoc, List.take_left' hlc] at hown
    simp only [List.getElem?_cons_zero, List.getElem?_cons_succ] at c0 c1
    have hms := HM.out.ms
    rw [htl] at hms
    have hLb : L ≤ 100000 := by have := HTT.out; omega
    have HOWN := Lib.hid hown
    have HLL := Lib.hid hLl
    have hL1 : L < L + 1 := by omega
    obtain ⟨b0, hb0⟩ : ∃ b0, sn[i * (m + 1) + k]? = some b0 := ⟨_, List.getElem?_eq_getElem (by rw [HM.out.ls]; exact idx_lt hi hk)⟩
    have HS0 := Lib.hid hb0
    clear hbd htdo htl hlc hown hms hLl hb0
    obtain ⟨Y, hY⟩ : ∃ Y, i * (m + 1) = Y := ⟨_, rfl⟩
    have hYk : Y + k < T := by have := idx_lt hi hk; have := HTT.out; omega
    have E1 : (i : Int) * ((m : Int) + 1) = (Y : Int) := by rw [← hY]; push_cast; rfl
    rw [hY] at HS0
    have HY := Lib.hid hY
    clear hY
    go_upto_region 8 with fail
    go_region
    have hM1 : RunM wr.drew gs (gs + 1) (.slice (some ⟨g, off, none⟩) (L + 1) c) p rs k0 n (m + 1) sn ot (l ++ [(i, k)]) := ⟨HM.out.bs, HM.out.bo, HM.out.ls, HM.out.lo, HM.out.tdo, HM.out.ri, HM.out.bd, HM.out.ms⟩
    have hown1 : Own wr.drew 95 2 (.slice (some ⟨g, off, none⟩) L c) L (tdC l) := HOWN.out
    have hb1 : Below w.heap.size w wr.drew := HB.out.drew
    obtain ⟨w1, hw1⟩ : ∃ w1, wr.drew = w1 := ⟨_, rfl⟩
    rw [hw1] at hM1 hown1 hb1 ⊢
    clear hw1
    have x0 : w1.cell? ⟨gs, Y + k, none⟩ = some (.bool b0) := by
      rw [hM1.bs.cell (Y + k)]
      simp [HS0.out, bV_]
    have f0 := hM1.bs.frozen (Y + k)
    have hgl1 := hM1.bs.lt
    have HM1 := Lib.hid hM1
    have HOW1 := Lib.hid hown1
    have HB1 := Lib.hid hb1
    clear hM1 hown1 hb1 hsl c0 c1 hgl
    by_cases hbt : b0 = true
    · subst hbt
      have HPOP := Lib.hid (HM.out.pop (w' := w1) (v' := .slice (some ⟨g, off, none⟩) L c) (by rw [HY.out]; exact HS0.out) HM1.out.bs HM1.out.bo (by show Own _ _ _ _ _ _; rw [HLL.out]; exact HOW1.out))
      go_wp2_with fail
      go_roundw
      case rel => exact ⟨l, sn, ot, HPOP.out, HK.out, HB1.out⟩
      case measure => have e1 := cntF_blk HM1.out.bs; have e2 := cntF_blk HM.out.bs; show 3 * cntF w1 gs + L < 3 * cntF wr gs + (L + 1); omega
    · obtain rfl : b0 = false := by simpa using hbt
      have HSF : Hid (sn[i * (m + 1) + k]? = some false) := by show _ = _; rw [HY.out]; exact HS0.out
      obtain ⟨pt, hpi⟩ : ∃ pt, p[i]? = some pt := ⟨_, List.getElem?_eq_getElem (by rw [HN.out]; exact hi)⟩
      have hoki := HOK.out i pt hpi
      rw [HN.out] at hoki
      obtain ⟨b, poff, rfl, hb, hcell⟩ := (HP.out.below (HB1.out.mono HBW.out)) (fun e => by rw [e] at hpi; simp at hpi)
      obtain ⟨A1, cc1, hcc1, hrg, d0, d1, d2, d3⟩ := hcell i pt hpi
      have hsl1000 := HSET.out i pt hpi
      obtain ⟨top, tset, tx, ty⟩ := pt
      simp only at d0 d1 d2 d3 hoki hrg hcc1 hsl1000
      have hbgs : b ≠ gs := by have := HGS.out; have := HBW.out; omega
      have hbl1 : b < w1.heap.size := Nat.lt_of_lt_of_le hb (Nat.le_trans HBW.out HB1.out.size)
      have HPI := Lib.hid hpi
      have HOKI := Lib.hid hoki
      have HRG := Lib.hid hrg
      clear hpi hoki hcell hrg hbt
      go_upto_region 13 with fail
      have hg3 : Blk ((w1.setCell ⟨gs, Y + k, none⟩ (.bool true)).alloc (.cells #[.int .i64 top, .slice A1 tset.length cc1, .int .i64 tx, .int .i64 ty] 48)) gs 4 ((sn.set (i * (m + 1) + k) true).map bV_).toArray := by
        have := (HM1.out.bs.set_ (Y + k) (.bool true)).alloc (.cells #[.int .i64 top, .slice A1 tset.length cc1, .int .i64 tx, .int .i64 ty] 48)
        rw [HY.out]
        simpa [List.map_set, bV_] using this
      have ho3 := (HM1.out.bo.far (p := ⟨gs, Y + k, none⟩) (by show gs + 1 ≠ gs; omega) (.bool true)).alloc (.cells #[.int .i64 top, .slice A1 tset.length cc1, .int .i64 tx, .int .i64 ty] 48)
      have ht3 := (Own.setCell (p := ⟨gs, Y + k, none⟩) HOW1.out (own_blk_ne HOW1.out HM1.out.bs (by decide)) (.bool true)).alloc (.cells #[.int .i64 top, .slice A1 tset.length cc1, .int .i64 tx, .int .i64 ty] 48)
      have hb3 := (HB1.out.setCell (p := ⟨gs, Y + k, none⟩) (by show w.heap.size ≤ gs; have := HGS.out; omega) (.bool true)).alloc (by have := HB1.out.size; simpa [World.setCell] using this) (.cells #[.int .i64 top, .slice A1 tset.length cc1, .int .i64 tx, .int .i64 ty] 48)
      have hx3 := Blk.new (w1.setCell ⟨gs, Y + k, none⟩ (.bool true)) 48 #[.int .i64 top, .slice A1 tset.length cc1, .int .i64 tx, .int .i64 ty]
      have hrg3 : RgR ((w1.setCell ⟨gs, Y + k, none⟩ (.bool true)).alloc (.cells #[.int .i64 top, .slice A1 tset.length cc1, .int .i64 tx, .int .i64 ty] 48)) B A1 tset := HRG.out.below (((Below.refl B w1).setCell (p := ⟨gs, Y + k, none⟩) (by show B ≤ gs; have := HGS.out; have := HBW.out; omega) (.bool true)).alloc (by have := Nat.le_trans HBW.out HB1.out.size; simpa [World.setCell] using this) _)
      have hss : (w1.setCell ⟨gs, Y + k, none⟩ (.bool true)).heap.size = w1.heap.size := by simp [World.setCell]
      rw [hss] at hx3
      generalize (w1.setCell ⟨gs, Y + k, none⟩ (.bool true)).alloc (.cells #[.int .i64 top, .slice A1 tset.length cc1, .int .i64 tx, .int .i64 ty] 48) = w3 at hg3 ho3 ht3 hb3 hx3 hrg3 ⊢
      obtain ⟨xb, hxb⟩ : ∃ xb, w1.heap.size = xb := ⟨_, rfl⟩
      rw [hxb] at hx3 ⊢
      have HG3 := Lib.hid hg3
      have HO3 := Lib.hid ho3
      have HT3 := Lib.hid ht3
      have HB3 := Lib.hid hb3
      have HK3 := HK
      have HX3 := Lib.hid hx3
      have u0 := hx3.cell 0
      have u1 := hx3.cell 1
      have u2 := hx3.cell 2
      have u3 := hx3.cell 3
      have hxl := hx3.lt
      simp only [List.getElem?_toArray, List.getElem?_cons_succ, List.getElem?_cons_zero] at u0 u1 u2 u3
      clear hg3 ho3 ht3 hb3 hss d0 d1 d2 d3 x0 f0 hgl1 hbl1 hxb hx3 E1
      by_cases o0 : top = 0
      · subst o0
        have HSU : Hid (succs p rs i k = []) := by
          show _ = _
          unfold succs eps nxt
          rw [HPI.out]
          simp [HMR.out]
        have q0 := HO3.out.cell k
        have fq := HO3.out.frozen k
        have hol := HO3.out.lt
        have hok1 : k < ot.length := by rw [HM.out.lo]; exact hk
        simp only [List.getElem?_toArray, List.getElem?_map, List.getElem?_eq_getElem hok1, Option.map_some] at q0
        have HO4 : Hid (Blk (w3.setCell ⟨gs + 1, k, none⟩ (.bool true)) (gs + 1) 4 ((ot.set k true).map bV_).toArray) := by
          have := HO3.out.set_ k (.bool true)
          show Blk _ _ _ _
          simpa [List.map_set, bV_] using this
        have HG4 := Lib.hid (HG3.out.far (p := ⟨gs + 1, k, none⟩) (by show gs ≠ gs + 1; omega) (.bool true))
        have HT4 := Lib.hid (Own.setCell (p := ⟨gs + 1, k, none⟩) HT3.out (own_blk_ne HT3.out HO3.out (by decide)) (.bool true))
        have HB4 := Lib.hid (HB3.out.setCell (p := ⟨gs + 1, k, none⟩) (by show w.heap.size ≤ gs + 1; have := HGS.out; omega) (.bool true))
        clear hrg3
        go_wp2_with fail
        go_roundw
        case rel => exact ⟨l ++ succs p rs i k, _, (ot.set k true), HM.out.visit HSF.out HPI.out HOK.out HN.out (by rw [HMR.out]) (by rw [if_pos rfl]) HG4.out HO4.out (by show Own _ _ _ _ _ _; rw [HSU.out, List.append_nil, HLL.out]; exact HT4.out), HK3.out, HB4.out⟩
        case measure => have e1 := cntF_blk HG4.out; have e2 := cntF_blk HM.out.bs; have e3 := cnt_true HSF.out; show 3 * cntF _ gs + L < 3 * cntF wr gs + (L + 1); omega
      have O0 : (top == 0) = false := by simpa using o0
      by_cases o1 : top = 1
      · subst o1
        have HX1 := HOKI.out.2.2.1 (by decide)
        obtain ⟨X, hX⟩ : ∃ X : Nat, tx = (X : Int) := ⟨tx.toNat, by omega⟩
        subst hX
        by_cases hkm : k < m
        · obtain ⟨r, hr⟩ : ∃ r, rs[k]? = some r := ⟨_, List.getElem?_eq_getElem (by rw [HMR.out]; exact hkm)⟩
          obtain ⟨rb, ro, hrA, hrb, hrc⟩ := (HRD.out.below (HB3.out.mono HBW.out)).2 (by omega)
          subst hrA
          have r0 := hrc k (by omega)
          rw [List.getElem?_map, hr] at r0
          simp only [Option.map_some, iV] at r0
          have hrbl : rb < w3.heap.size := Nat.lt_of_lt_of_le hrb (Nat.le_trans HBW.out HB3.out.size)
          have HVQ : Hid (∀ q, Calls Try.prog 49 #[.slice A1 tset.length cc1, .int .i64 r] (w3.drewN q) fun e w' => e = .returned (.bool (hasS tset r)) ∧ w3.drewN q = w') := fun q =>
            (refHas_any tset r A1 tset.length cc1 B (w3.drewN q) (hrg3.below (below_drewN (Below.refl _ _) q)) (Nat.le_trans HBW.out HB3.out.size) rfl hsl1000 hcc1).mono fun e w' ⟨h1, h2⟩ => ⟨h1, h2.symm⟩
          obtain ⟨H, hH⟩ : ∃ H, hasS tset r = H := ⟨_, rfl⟩
          have HH := Lib.hid hH
          have HR := Lib.hid hr
          rw [hH] at HVQ
          have hkd : decide ((k : Int) < (m : Int)) = true := by simp; omega
          clear hrg3 hrc hr hH
          go_upto_region 17 with fail
          go_quiet ((go_at_call 49; exact quiet_left (HVQ.out _)))
          have hg4 := HG3.out.drewN nq
          have ho4 := HO3.out.drewN nq
          have ht4 := Own.drewN HT3.out nq
          have hb4 := below_drewN HB3.out nq
          have hx4 := HX3.out.drewN nq
          generalize w3.drewN nq = w4 at hg4 ho4 ht4 hb4 hx4 ⊢
          have HG3 := Lib.hid hg4
          have HO3 := Lib.hid ho4
          have HT3 := Lib.hid ht4
          have HB3 := Lib.hid hb4
          have v2 := hx4.cell 2
          have hxl4 := hx4.lt
          simp only [List.getElem?_toArray, List.getElem?_cons_succ, List.getElem?_cons_zero] at v2
          clear hg4 ho4 ht4 hb4 hx4 HVQ u0 u1 u2 u3 hkd r0
          cases H with
          | true =>
            have HSU : Hid (succs p rs i k = [(X, k + 1)]) := by
              show _ = _
              unfold succs eps nxt
              rw [HPI.out]
              simp [HMR.out, HR.out, HH.out]
            go_wp2_with (at_builtin; go_loud (refine wpList_append_mine _ rfl (.tmp 98) (.tmp 104) _ rfl 95 j0 _ 2 16 Try.underlying96 hj0 hjz0 hjz1 hjz2 rfl (by omega) (.slice (some ⟨g, off, none⟩) L c) L (tdC l) rfl (by exact (HT3.out.alloc _)) _ 1 1 [.int .i64 (X : Int), .int .i64 ((k : Int) + 1)] rfl rfl (by exact news_pushs rfl rfl) (by simp [Value.oneCell']) (by omega) (by simp only [maxLen]; omega) (by omega) _ rfl ?_); intro g7 o7 c7 w7 hown7 hgrow7 hat7; have hst := run_step (g7 := g7) (o7 := o7) (c7 := c7) (n7 := L + 1) HG3.out HO3.out HT3.out HK3.out HB3.out hgrow7 (by simpa using hat7); have HG7 := Lib.hid hst.1; have HO7 := Lib.hid hst.2.1; have HK7 := Lib.hid hst.2.2.1; have HB7 := Lib.hid hst.2.2.2; have HT7 := Lib.hid hown7; clear hst hown7 hgrow7 hat7)
            go_roundw
            case rel => exact ⟨l ++ succs p rs i k, _, ot, HM.out.visit HSF.out HPI.out HOK.out HN.out (by rw [HMR.out]) (by rw [if_neg (by simp)]) HG7.out HO7.out (by show Own _ _ _ _ _ _; rw [HSU.out, List.length_append, HLL.out, tdC_app]; exact HT7.out), HK7.out, HB7.out⟩
            case measure => have e1 := cntF_blk HG7.out; have e2 := cntF_blk HM.out.bs; have e3 := cnt_true HSF.out; show 3 * cntF _ gs + (L + 1) < 3 * cntF wr gs + (L + 1); omega
          | false =>
            have HSU : Hid (succs p rs i k = []) := by
              show _ = _
              unfold succs eps nxt
              rw [HPI.out]
              simp [HMR.out, HR.out, HH.out]
            go_wp2_with fail
            go_roundw
            case rel => exact ⟨l ++ succs p rs i k, _, ot, HM.out.visit HSF.out HPI.out HOK.out HN.out (by rw [HMR.out]) (by rw [if_neg (by simp)]) HG3.out HO3.out (by show Own _ _ _ _ _ _; rw [HSU.out, List.append_nil, HLL.out]; exact HT3.out), HK3.out, HB3.out⟩
            case measure => have e1 := cntF_blk HG3.out; have e2 := cntF_blk HM.out.bs; have e3 := cnt_true HSF.out; show 3 * cntF _ gs + L < 3 * cntF wr gs + (L + 1); omega
        · have hkd : decide ((k : Int) < (m : Int)) = false := by simp; omega
          have hrn : rs[k]? = none := List.getElem?_eq_none (by rw [HMR.out]; omega)
          have HR := Lib.hid hrn
          clear hrg3 hrn
          go_upto_region 17 with fail
          go_quiet (fail)
          have hg4 := HG3.out.drewN nq
          have ho4 := HO3.out.drewN nq
          have ht4 := Own.drewN HT3.out nq
          have hb4 := below_drewN HB3.out nq
          generalize w3.drewN nq = w4 at hg4 ho4 ht4 hb4 ⊢
          have HG3 := Lib.hid hg4
          have HO3 := Lib.hid ho4
          have HT3 := Lib.hid ht4
          have HB3 := Lib.hid hb4
          clear hg4 ho4 ht4 hb4 u0 u1 u2 u3 hkd
          have HSU : Hid (succs p rs i k = []) := by
            show _ = _
            unfold succs eps nxt
            rw [HPI.out]
            simp [HMR.out, HR.out]
          go_wp2_with fail
          go_roundw
          case rel => exact ⟨l ++ succs p rs i k, _, ot, HM.out.visit HSF.out HPI.out HOK.out HN.out (by rw [HMR.out]) (by rw [if_neg (by simp)]) HG3.out HO3.out (by show Own _ _ _ _ _ _; rw [HSU.out, List.append_nil, HLL.out]; exact HT3.out), HK3.out, HB3.out⟩
          case measure => have e1 := cntF_blk HG3.out; have e2 := cntF_blk HM.out.bs; have e3 := cnt_true HSF.out; show 3 * cntF _ gs + L < 3 * cntF wr gs + (L + 1); omega
      have O1 : (top == 1) = false := by simpa using o1
      clear hrg3
      by_cases o2 : top = 2
      · subst o2
        have HX1 := HOKI.out.2.2.1 (by decide)
        obtain ⟨X, hX⟩ : ∃ X : Nat, tx = (X : Int) := ⟨tx.toNat, by omega⟩
        subst hX
        have HY1 := HOKI.out.2.2.2 rfl
        obtain ⟨Z, hZ⟩ : ∃ Z : Nat, ty = (Z : Int) := ⟨ty.toNat, by omega⟩
        subst hZ
        have HSU : Hid (succs p rs i k = [(X, k), (Z, k)]) := by
          show _ = _
          unfold succs eps nxt
          rw [HPI.out]
          simp [HMR.out]
        go_wp2_with (at_builtin; go_loud (refine wpList_append_mine _ rfl (.tmp 108) (.tmp 117) _ rfl 95 j0 _ 2 16 Try.underlying96 hj0 hjz0 hjz1 hjz2 rfl (by omega) (.slice (some ⟨g, off, none⟩) L c) L (tdC l) rfl (by exact (HT3.out.alloc _)) _ 2 2 [.int .i64 (X : Int), .int .i64 (k : Int), .int .i64 (Z : Int), .int .i64 (k : Int)] rfl rfl (by exact news_pushs rfl rfl) (by simp [Value.oneCell']) (by omega) (by simp only [maxLen]; omega) (by omega) _ rfl ?_); intro g7 o7 c7 w7 hown7 hgrow7 hat7; have hst := run_step (g7 := g7) (o7 := o7) (c7 := c7) (n7 := L + 2) HG3.out HO3.out HT3.out HK3.out HB3.out hgrow7 (by simpa using hat7); have HG7 := Lib.hid hst.1; have HO7 := Lib.hid hst.2.1; have HK7 := Lib.hid hst.2.2.1; have HB7 := Lib.hid hst.2.2.2; have HT7 := Lib.hid hown7; clear hst hown7 hgrow7 hat7)
        go_roundw
        case rel => exact ⟨l ++ succs p rs i k, _, ot, HM.out.visit HSF.out HPI.out HOK.out HN.out (by rw [HMR.out]) (by rw [if_neg (by simp)]) HG7.out HO7.out (by show Own _ _ _ _ _ _; rw [HSU.out, List.length_append, HLL.out, tdC_app]; exact HT7.out), HK7.out, HB7.out⟩
        case measure => have e1 := cntF_blk HG7.out; have e2 := cntF_blk HM.out.bs; have e3 := cnt_true HSF.out; show 3 * cntF _ gs + (L + 2) < 3 * cntF wr gs + (L + 1); omega
      have O2 : (top == 2) = false := by simpa using o2
      by_cases o3 : top = 3
      · subst o3
        by_cases hk0' : k = 0
        · have hkb : ((k : Int) == 0) = true := by simp; omega
          have HK0 := Lib.hid hk0'
          clear hk0'
          have HX1 := HOKI.out.2.2.1 (by decide)
          obtain ⟨X, hX⟩ : ∃ X : Nat, tx = (X : Int) := ⟨tx.toNat, by omega⟩
          subst hX
          have HSU : Hid (succs p rs i k = [(X, k)]) := by
            show _ = _
            unfold succs eps nxt
            rw [HPI.out]
            simp [HMR.out, HK0.out]
          go_wp2_with (at_builtin; go_loud (refine wpList_append_mine _ rfl (.tmp 123) (.tmp 128) _ rfl 95 j0 _ 2 16 Try.underlying96 hj0 hjz0 hjz1 hjz2 rfl (by omega) (.slice (some ⟨g, off, none⟩) L c) L (tdC l) rfl (by exact (HT3.out.alloc _)) _ 1 1 [.int .i64 (X : Int), .int .i64 (k : Int)] rfl rfl (by exact news_pushs rfl rfl) (by simp [Value.oneCell']) (by omega) (by simp only [maxLen]; omega) (by omega) _ rfl ?_); intro g7 o7 c7 w7 hown7 hgrow7 hat7; have hst := run_step (g7 := g7) (o7 := o7) (c7 := c7) (n7 := L + 1) HG3.out HO3.out HT3.out HK3.out HB3.out hgrow7 (by simpa using hat7); have HG7 := Lib.hid hst.1; have HO7 := Lib.hid hst.2.1; have HK7 := Lib.hid hst.2.2.1; have HB7 := Lib.hid hst.2.2.2; have HT7 := Lib.hid hown7; clear hst hown7 hgrow7 hat7)
          go_roundw
          case rel => exact ⟨l ++ succs p rs i k, _, ot, HM.out.visit HSF.out HPI.out HOK.out HN.out (by rw [HMR.out]) (by rw [if_neg (by simp)]) HG7.out HO7.out (by show Own _ _ _ _ _ _; rw [HSU.out, List.length_append, HLL.out, tdC_app]; exact HT7.out), HK7.out, HB7.out⟩
          case measure => have e1 := cntF_blk HG7.out; have e2 := cntF_blk HM.out.bs; have e3 := cnt_true HSF.out; show 3 * cntF _ gs + (L + 1) < 3 * cntF wr gs + (L + 1); omega
        · have hkb : ((k : Int) == 0) = false := by simp; omega
          have HSU : Hid (succs p rs i k = []) := by
            show _ = _
            unfold succs eps nxt
            rw [HPI.out]
            simp [HMR.out, hk0']
          go_wp2_with fail
          go_roundw
          case rel => exact ⟨l ++ succs p rs i k, _, ot, HM.out.visit HSF.out HPI.out HOK.out HN.out (by rw [HMR.out]) (by rw [if_neg (by simp)]) HG3.out HO3.out (by show Own _ _ _ _ _ _; rw [HSU.out, List.append_nil, HLL.out]; exact HT3.out), HK3.out, HB3.out⟩
          case measure => have e1 := cntF_blk HG3.out; have e2 := cntF_blk HM.out.bs; have e3 := cnt_true HSF.out; show 3 * cntF _ gs + L < 3 * cntF wr gs + (L + 1); omega
      have O3 : (top == 3) = false := by simpa using o3
      have o4 : top = 4 := by have := HOKI.out; omega
      subst o4
      by_cases hkm : k = m
      · subst hkm
        have HX1 := HOKI.out.2.2.1 (by decide)
        obtain ⟨X, hX⟩ : ∃ X : Nat, tx = (X : Int) := ⟨tx.toNat, by omega⟩
        subst hX
        have HSU : Hid (succs p rs i k = [(X, k)]) := by
          show _ = _
          unfold succs eps nxt
          rw [HPI.out]
          simp [HMR.out]
        go_wp2_with (at_builtin; go_loud (refine wpList_append_mine _ rfl (.tmp 136) (.tmp 141) _ rfl 95 j0 _ 2 16 Try.underlying96 hj0 hjz0 hjz1 hjz2 rfl (by omega) (.slice (some ⟨g, off, none⟩) L c) L (tdC l) rfl (by exact (HT3.out.alloc _)) _ 1 1 [.int .i64 (X : Int), .int .i64 (k : Int)] rfl rfl (by exact news_pushs rfl rfl) (by simp [Value.oneCell']) (by omega) (by simp only [maxLen]; omega) (by omega) _ rfl ?_); intro g7 o7 c7 w7 hown7 hgrow7 hat7; have hst := run_step (g7 := g7) (o7 := o7) (c7 := c7) (n7 := L + 1) HG3.out HO3.out HT3.out HK3.out HB3.out hgrow7 (by simpa using hat7); have HG7 := Lib.hid hst.1; have HO7 := Lib.hid hst.2.1; have HK7 := Lib.hid hst.2.2.1; have HB7 := Lib.hid hst.2.2.2; have HT7 := Lib.hid hown7; clear hst hown7 hgrow7 hat7)
        go_roundw
        case rel => exact ⟨l ++ succs p rs i k, _, ot, HM.out.visit HSF.out HPI.out HOK.out HN.out (by rw [HMR.out]) (by rw [if_neg (by simp)]) HG7.out HO7.out (by show Own _ _ _ _ _ _; rw [HSU.out, List.length_append, HLL.out, tdC_app]; exact HT7.out), HK7.out, HB7.out⟩
        case measure => have e1 := cntF_blk HG7.out; have e2 := cntF_blk HM.out.bs; have e3 := cnt_true HSF.out; show 3 * cntF _ gs + (L + 1) < 3 * cntF wr gs + (L + 1); omega
      · have hkb : ((k : Int) == (m : Int)) = false := by simp; omega
        have HSU : Hid (succs p rs i k = []) := by
          show _ = _
          unfold succs eps nxt
          rw [HPI.out]
          simp [HMR.out, hkm]
        go_wp2_with fail
        go_roundw
        case rel => exact ⟨l ++ succs p rs i k, _, ot, HM.out.visit HSF.out HPI.out HOK.out HN.out (by rw [HMR.out]) (by rw [if_neg (by simp)]) HG3.out HO3.out (by show Own _ _ _ _ _ _; rw [HSU.out, List.append_nil, HLL.out]; exact HT3.out), HK3.out, HB3.out⟩
        case measure => have e1 := cntF_blk HG3.out; have e2 := cntF_blk HM.out.bs; have e3 := cnt_true HSF.out; show 3 * cntF _ gs + L < 3 * cntF wr gs + (L + 1); omega
end Go.Proofs.Ytjfkppbfckgckaa
