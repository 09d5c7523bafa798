/-
  The contracts of reedbedref04.size, reedbedref04.Cut and reedbedref04.Same; no condition beyond those that each theorem states.
-/
import Derived.Test.YtnigmfjghapfgaaCut1
namespace Go.Proofs.Ytnigmfjghapfgaa
open Go.RowKit Go.Rb

theorem infoS : (Try.prog.info? 9).map (fun i => (i.zero, i.size, i.bytes)) = some (some (.string ⟨#[]⟩), 1, 16) := by kernel_rfl
def sV (p : List UInt8) : Value := .string ⟨p.toArray⟩
def NewS (w w' : World) (v : Value) (ps : List (List UInt8)) : Prop :=
  Own w' 9 1 v ps.length (ps.map sV) ∧ Below w.heap.size w w' ∧ ∀ k, v.ownBlock = some k → w.heap.size ≤ k
def RetNewS (w : World) (ps : List (List UInt8)) (e : Ending) (w' : World) : Prop := ∃ v, e = .returned v ∧ NewS w w' v ps

def szI (z : Int) : Int := min (max z 1) 4096

theorem refSize_any (z : Int) (w : World) : Calls Try.prog 23 #[.int .i64 z] w fun e w' => e = .returned (.int .i64 (szI z)) ∧ w' = w := by
  by_cases h1 : z < 1
  · go_enter Try.func23, Try.ntmps23
    go_wp2
    go_ret
    exact ⟨by rw [show szI z = 1 from by unfold szI; omega]; rfl, rfl⟩
  · by_cases h2 : z > 4096
    · go_enter Try.func23, Try.ntmps23
      go_wp2
      go_ret
      exact ⟨by rw [show szI z = 4096 from by unfold szI; omega]; rfl, rfl⟩
    · go_enter Try.func23, Try.ntmps23
      go_wp2
      go_ret
      exact ⟨by rw [show szI z = z from by unfold szI; omega]; rfl, rfl⟩

theorem ba_extract (s : ByteArray) (a b : Nat) : (s.extract a b).data.toList = (s.data.toList.drop a).take (b - a) := by
  rw [ByteArray.data_extract, Array.toList_extract]
theorem ba_size (s : ByteArray) : s.size = s.data.toList.length := by rw [Array.length_toList]; rfl
theorem ba_eq (s : ByteArray) (l : List UInt8) (h : s.data.toList = l) : s = ⟨l.toArray⟩ := by subst h; rfl

def mR (zs : List Int) (i len : Nat) : Nat := if zs = [] then len else mOf zs i len
def cutR (zs : List Int) : Nat → Nat → List UInt8 → List (List UInt8)
  | 0, _, _ => []
  | f + 1, i, bs => if bs = [] then [] else bs.take (mR zs i bs.length) :: cutR zs f (i + 1) (bs.drop (mR zs i bs.length))
theorem cutR_nil (zs : List Int) (f i : Nat) : cutR zs f i [] = [] := by cases f <;> simp [cutR]
theorem cutR_cons (zs : List Int) (hz : zs ≠ []) (f i : Nat) (bs : List UInt8) : cutR zs f i bs = cutF zs f i bs := by
  induction f generalizing i bs with
  | zero => rfl
  | succ f ih => simp only [cutR, cutF, mR, if_neg hz, ih]
theorem cutR_eq (zs : List Int) (bs : List UInt8) : cutR zs bs.length 0 bs = cutP bs zs := by
  unfold cutP
  by_cases h1 : bs = []
  · simp [h1, cutR_nil]
  · rw [if_neg h1]
    by_cases h2 : zs = []
    · rw [if_pos h2]
      subst h2
      cases bs with
      | nil => exact absurd rfl h1
      | cons a l => simp [cutR, mR, cutR_nil]
    · rw [if_neg h2, cutR_cons zs h2]
theorem mR_bd (zs : List Int) (i len : Nat) (h : 0 < len) : 1 ≤ mR zs i len ∧ mR zs i len ≤ len := by
  unfold mR
  split
  · omega
  · have := mOf_bd zs i len h; omega

set_option maxHeartbeats 2000000 in
theorem refCut_any (bs : List UInt8) (zs : List Int) (Z : Option Addr) (n m d B : Nat) (w : World) (hz : Rd w B 1 Z m (zs.map iV)) (hl : bs.length = n) (hn : n ≤ 100000) (hm : m ≤ 1000) (hB : B ≤ w.heap.size) :
    Calls Try.prog 21 #[.string ⟨bs.toArray⟩, .slice Z m d] w (RetNewS w (cutP bs zs)) := by
  obtain ⟨i0, hi0, hz0, hz1, hz2⟩ := info_parts infoS
  have hzl : zs.length = m := by simpa using hz.1
  rw [← cutR_eq]
  have hS : Hid (∀ z w, Calls Try.prog 23 #[.int .i64 z] w fun e w' => e = .returned (.int .i64 (szI z)) ∧ w' = w) := refSize_any
  have HL := Lib.hid hl
  have HZ := Lib.hid hz
  have HZL := Lib.hid hzl
  clear hz hl hzl
  obtain ⟨s0, hs0⟩ : ∃ s : ByteArray, s = ⟨bs.toArray⟩ := ⟨_, rfl⟩
  have hs0' : Hid (s0.data.toList = bs) := by subst hs0; rfl
  rw [← hs0]
  clear hs0
  go_enter Try.func21, Try.ntmps21
  go_wp2
  go_loopw [0, 5, 6] (fun b v i wr => ∃ (k j f : Nat) (s : ByteArray) (ps : List (List UInt8)), k ≤ n ∧ j ≤ k ∧ b = .string s ∧ s.size = n - k ∧ i = .int .i64 j ∧ Hid (n - k ≤ f) ∧ ps.length ≤ k ∧ Hid (s.data.toList = bs.drop k) ∧
      Hid (cutR zs bs.length 0 bs = ps ++ cutR zs f j (bs.drop k)) ∧ Hid (Own wr 9 1 v ps.length (ps.map sV)) ∧ Below w.heap.size w wr ∧ Hid (∀ g, v.ownBlock = some g → w.heap.size ≤ g)) (fun _ _ i _ => n - (intOf i).toNat)
  case atStart => exact ⟨0, 0, bs.length, s0, [], by omega, by omega, rfl, by rw [ba_size, hs0'.out, HL.out]; rfl, rfl, by have := HL.out; show _ ≤ _; omega, by simp, hs0'.out, by simp [Hid], Own.nil_ _ _ _, Below.refl _ _, by simp [Hid, Value.ownBlock]⟩
  case round =>
    obtain ⟨k, j, f, s, ps, hk, hjk, rfl, hss, rfl, hf, hpl, hsd, hcut, hown, hb, hbk⟩ := hrel
    have HB := Lib.hid hb
    clear hb
    have hSS := Lib.hid hss
    by_cases hlt : k < n
    · obtain ⟨f, rfl⟩ : ∃ f', f = f' + 1 := ⟨f - 1, by have := hf.out; omega⟩
      have hdl : (bs.drop k).length = n - k := by rw [List.length_drop, HL.out]
      have hdn : bs.drop k ≠ [] := by intro h; rw [h] at hdl; simp at hdl; omega
      obtain ⟨q, hq⟩ : ∃ q, mR zs j (n - k) = q := ⟨_, rfl⟩
      have hqb := mR_bd zs j (n - k) (by omega)
      rw [hq] at hqb
      have hcut' : Hid (cutR zs bs.length 0 bs = (ps ++ [(bs.drop k).take q]) ++ cutR zs f (j + 1) (bs.drop (k + q))) := by
        have := hcut.out
        rw [cutR, if_neg hdn, hdl, hq, List.drop_drop] at this
        show _ = _
        rw [this]; simp
      obtain ⟨hq1, hq2⟩ := hqb
      obtain ⟨A0, cv, rfl, -, -⟩ := hown.out.len_
      have hs0 : 0 < s.size := by omega
      have hcases : (m = 0 ∧ q = s.size) ∨ (0 < m ∧ ∃ zb zo z, Z = some ⟨zb, zo, none⟩ ∧ wr.cell? ⟨zb, zo + j % m, none⟩ = some (.int .i64 z) ∧ q < s.size ∧ szI z = q) ∨
          (0 < m ∧ ∃ zb zo z, Z = some ⟨zb, zo, none⟩ ∧ wr.cell? ⟨zb, zo + j % m, none⟩ = some (.int .i64 z) ∧ ¬ szI z < (s.size : Int) ∧ q = s.size) := by
        by_cases hm0 : m = 0
        · left
          refine ⟨hm0, ?_⟩
          have : zs = [] := List.eq_nil_of_length_eq_zero (by rw [HZL.out, hm0])
          rw [← hq, mR, if_pos this, hss]
        · right
          have hzn : zs ≠ [] := by intro h; have := HZL.out; rw [h] at this; simp at this; omega
          rw [mR, if_neg hzn] at hq
          obtain ⟨zb, zo, hZ, hzB, hzc⟩ := HZ.out.2 (by omega)
          have hjm : j % m < m := Nat.mod_lt _ (by omega)
          have hjl : j % m < zs.length := by rw [HZL.out]; exact hjm
          have hzcell : wr.cell? ⟨zb, zo + j % m, none⟩ = some (.int .i64 (zs.getD (j % m) 0)) := by
            rw [HB.out.cell (p := ⟨zb, zo + j % m, none⟩) (by show zb < _; omega), hzc (j % m) (by omega), List.getElem?_map, List.getElem?_eq_getElem hjl]
            simp [iV, List.getD, List.getElem?_eq_getElem hjl]
          unfold mOf at hq
          rw [HZL.out] at hq
          by_cases h : szI (zs.getD (j % m) 0) < (s.size : Int)
          · exact .inl ⟨by omega, zb, zo, _, hZ, hzcell, by unfold szI at *; omega, by unfold szI at *; omega⟩
          · exact .inr ⟨by omega, zb, zo, _, hZ, hzcell, h, by unfold szI at *; omega⟩
      have hqz : q ≤ s.size := by omega
      have hszb : s.size ≤ 100000 := by omega
      have hjm' : Hid (((j : Int) % (m : Int)) = ((j % m : Nat) : Int)) := by show _ = _; omega
      clear hdl hdn hcut hss hq
      rcases hcases with ⟨rfl, hqq⟩ | ⟨hm0, zb, zo, z, rfl, hzc, hqs, hz2'⟩ | ⟨hm0, zb, zo, z, rfl, hzc, hz1', hqq⟩
      · obtain rfl := hqq
        go_wp2_with (first
          | (at_builtin; refine wpList_append_mine _ rfl (.tmp 36) (.tmp 40) _ rfl 9 i0 _ 1 16 Try.underlying39 hi0 hz0 hz1 hz2 rfl (by omega) (.slice A0 ps.length cv) ps.length (ps.map sV) rfl (by exact hown.out.alloc _) _ 1 1 [_] rfl rfl (by exact news_push rfl rfl) (by simp [Value.oneCell']) (by omega) (by simp only [maxLen]; omega) (by omega) _ rfl ?_; intro g2 o2 c2 w2 hown2 hgrow2 hat2))
        have hsz8 := hSS.out
        have hdl : (bs.drop k).length = n - k := by rw [List.length_drop, HL.out]
        have hp : Value.string s = sV ((bs.drop k).take s.size) := by
          rw [List.take_of_length_le (by have := hSS.out; omega), ← hsd.out]; rfl
        have hr : ByteArray.empty.data.toList = bs.drop (k + s.size) := by
          symm; rw [show ByteArray.empty.data.toList = [] from rfl, List.drop_eq_nil_iff]; have := hSS.out; have := HL.out; omega
        have hsz := HB.out.size
        have hb2 : Below w.heap.size w w2 := Below.grown (by exact HB.out.alloc hsz _) hgrow2 (by simp; omega) (fun g hg => by have := hbk.out g hg; omega)
        have hg2 : w.heap.size ≤ g2 := by
          rcases hat2 with h | h
          · exact hbk.out g2 h
          · rw [h]; exact Nat.le_trans hsz (by simp)
        have hrl := congrArg List.length hr
        rw [← ba_size, List.length_drop, HL.out] at hrl
        refine ⟨⟨k + s.size, j + 1, f, _, ps ++ [(bs.drop k).take s.size], by omega, by omega, rfl, by omega, by simp, ?_, by simp; omega, Lib.hid hr, hcut', ?_, hb2, ?_⟩, ?_⟩
        · show _ ≤ _; have := hf.out; omega
        · show Own _ _ _ _ _ _
          rw [List.map_append, List.map_cons, List.map_nil, ← hp]
          simpa using hown2
        · intro g hg; simp [Value.ownBlock] at hg; omega
        · simp [intOf]; omega
      · have hjn : j % m < m := Nat.mod_lt _ hm0
        have hmm : (0 : Int) < (m : Int) := by omega
        have hmb : ((m : Int) == 0) = false := by rw [beq_eq_false_iff_ne]; omega
        have hS := Lib.hid (fun w => hS.out z w)
        rw [hz2'] at hS
        clear hz2'
        go_wp2_with (first
          | (go_at_call 23; refine (hS.out _).mono ?_; rintro e1 w1 ⟨rfl, rfl⟩)
          | (at_builtin; refine wpList_append_mine _ rfl (.tmp 36) (.tmp 40) _ rfl 9 i0 _ 1 16 Try.underlying39 hi0 hz0 hz1 hz2 rfl (by omega) (.slice A0 ps.length cv) ps.length (ps.map sV) rfl (by exact hown.out.alloc _) _ 1 1 [_] rfl rfl (by exact news_push rfl rfl) (by simp [Value.oneCell']) (by omega) (by simp only [maxLen]; omega) (by omega) _ rfl ?_; intro g2 o2 c2 w2 hown2 hgrow2 hat2))
        have hsz8 := hSS.out
        have hp : Value.string (s.extract 0 q) = sV ((bs.drop k).take q) := by
          have := ba_extract s 0 q
          rw [hsd.out, List.drop_zero, Nat.sub_zero] at this
          exact congrArg Value.string (ba_eq _ _ this)
        have hr : (s.extract q s.size).data.toList = bs.drop (k + q) := by
          rw [extract_drop, hsd.out, List.drop_drop]
        have hsz := HB.out.size
        have hb2 : Below w.heap.size w w2 := Below.grown (by exact HB.out.alloc hsz _) hgrow2 (by simp; omega) (fun g hg => by have := hbk.out g hg; omega)
        have hg2 : w.heap.size ≤ g2 := by
          rcases hat2 with h | h
          · exact hbk.out g2 h
          · rw [h]; exact Nat.le_trans hsz (by simp)
        have hrl := congrArg List.length hr
        rw [← ba_size, List.length_drop, HL.out] at hrl
        refine ⟨⟨k + q, j + 1, f, _, ps ++ [(bs.drop k).take q], by omega, by omega, rfl, by omega, by simp, ?_, by simp; omega, Lib.hid hr, hcut', ?_, hb2, ?_⟩, ?_⟩
        · show _ ≤ _; have := hf.out; omega
        · show Own _ _ _ _ _ _
          rw [List.map_append, List.map_cons, List.map_nil, ← hp]
          simpa using hown2
        · intro g hg; simp [Value.ownBlock] at hg; omega
        · simp [intOf]; omega
      · have hjn : j % m < m := Nat.mod_lt _ hm0
        have hmm : (0 : Int) < (m : Int) := by omega
        have hmb : ((m : Int) == 0) = false := by rw [beq_eq_false_iff_ne]; omega
        obtain rfl := hqq
        have hS := Lib.hid (fun w => hS.out z w)
        generalize szI z = v at *
        go_wp2_with (first
          | (go_at_call 23; refine (hS.out _).mono ?_; rintro e1 w1 ⟨rfl, rfl⟩)
          | (at_builtin; refine wpList_append_mine _ rfl (.tmp 36) (.tmp 40) _ rfl 9 i0 _ 1 16 Try.underlying39 hi0 hz0 hz1 hz2 rfl (by omega) (.slice A0 ps.length cv) ps.length (ps.map sV) rfl (by exact hown.out.alloc _) _ 1 1 [_] rfl rfl (by exact news_push rfl rfl) (by simp [Value.oneCell']) (by omega) (by simp only [maxLen]; omega) (by omega) _ rfl ?_; intro g2 o2 c2 w2 hown2 hgrow2 hat2))
        have hsz8 := hSS.out
        have hdl : (bs.drop k).length = n - k := by rw [List.length_drop, HL.out]
        have hp : Value.string s = sV ((bs.drop k).take s.size) := by
          rw [List.take_of_length_le (by have := hSS.out; omega), ← hsd.out]; rfl
        have hr : ByteArray.empty.data.toList = bs.drop (k + s.size) := by
          symm; rw [show ByteArray.empty.data.toList = [] from rfl, List.drop_eq_nil_iff]; have := hSS.out; have := HL.out; omega
        have hsz := HB.out.size
        have hb2 : Below w.heap.size w w2 := Below.grown (by exact HB.out.alloc hsz _) hgrow2 (by simp; omega) (fun g hg => by have := hbk.out g hg; omega)
        have hg2 : w.heap.size ≤ g2 := by
          rcases hat2 with h | h
          · exact hbk.out g2 h
          · rw [h]; exact Nat.le_trans hsz (by simp)
        have hrl := congrArg List.length hr
        rw [← ba_size, List.length_drop, HL.out] at hrl
        refine ⟨⟨k + s.size, j + 1, f, _, ps ++ [(bs.drop k).take s.size], by omega, by omega, rfl, by omega, by simp, ?_, by simp; omega, Lib.hid hr, hcut', ?_, hb2, ?_⟩, ?_⟩
        · show _ ≤ _; have := hf.out; omega
        · show Own _ _ _ _ _ _
          rw [List.map_append, List.map_cons, List.map_nil, ← hp]
          simpa using hown2
        · intro g hg; simp [Value.ownBlock] at hg; omega
        · simp [intOf]; omega
    · have hkn : k = n := by omega
      subst hkn
      have hs0 : s.size = 0 := by omega
      go_wp2
      have h0 := hcut.out
      rw [show bs.drop k = [] from by rw [List.drop_eq_nil_iff]; have := HL.out; omega, cutR_nil, List.append_nil] at h0
      rw [h0]
      go_ret
      exact ⟨_, rfl, hown.out, HB.out, hbk.out⟩
end Go.Proofs.Ytnigmfjghapfgaa
