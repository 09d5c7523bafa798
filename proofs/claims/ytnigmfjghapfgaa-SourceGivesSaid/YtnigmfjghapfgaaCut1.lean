/-
  Pieces: what Cut gives, slices of slices in cells; the contracts of slices.Clone and cuts.Cut; no condition beyond those that each theorem states.
-/
import Derived.Test.YtnigmfjghapfgaaBytes
import Derived.Test.YtnigmfjghapfgaaIntsD
import Derived.Lib.MinMax
namespace Go.Proofs.Ytnigmfjghapfgaa
open Go.RowKit Go.Rb

@[go_sem high] theorem run_min_ints3 {P : Program} (w : World) (ts : Array TypeId) (t : TypeId) (k k' k'' : IntKind) (x y z : Int) :
    (Builtin.min_ ts t #[.int k x, .int k' y, .int k'' z]).run P w = .ok (.int k (min (min x y) z)) w := by
  have e : ∀ x y : Int, (if y < x then y else x) = min x y := by
    intro x y
    rw [Int.min_def]
    split <;> split <;> omega
  simp [Builtin.min_, Builtin.min2, e]

theorem infoB : (Try.prog.info? 22).map (fun i => (i.zero, i.size, i.bytes)) = some (some (.slice none 0 0), 1, 24) := by kernel_rfl

/-- How many octets the next piece has. -/
def mOf (zs : List Int) (i len : Nat) : Nat := min (min (max (zs.getD (i % zs.length) 0) 1) 4096).toNat len
def cutF (zs : List Int) : Nat → Nat → List UInt8 → List (List UInt8)
  | 0, _, _ => []
  | f + 1, i, bs => if bs = [] then [] else bs.take (mOf zs i bs.length) :: cutF zs f (i + 1) (bs.drop (mOf zs i bs.length))
def cutP (bs : List UInt8) (zs : List Int) : List (List UInt8) := if bs = [] then [] else if zs = [] then [bs] else cutF zs bs.length 0 bs
theorem cutF_nil (zs : List Int) (f i : Nat) : cutF zs f i [] = [] := by cases f <;> simp [cutF]
theorem mOf_bd (zs : List Int) (i len : Nat) (h : 0 < len) : 1 ≤ mOf zs i len ∧ mOf zs i len ≤ len ∧ mOf zs i len ≤ 4096 := by unfold mOf; omega

/-- Two slices of unlike elements share no block. -/
theorem own_ne {w : World} {e1 e2 : TypeId} {s1 s2 n1 n2 : Nat} {v1 v2 : Value} {x1 x2 : List Value} (h1 : Own w e1 s1 v1 n1 x1) (h2 : Own w e2 s2 v2 n2 x2) (hne : e1 ≠ e2) :
    ∀ k, v1.ownBlock = some k → v2.ownBlock ≠ some k := by
  intro k hk hk2
  rcases h1.2 with ⟨rfl, _⟩ | ⟨g, off, cap, cur, rfl, hg, _⟩
  · simp [Value.ownBlock] at hk
  · rcases h2.2 with ⟨rfl, _⟩ | ⟨g', off', cap', cur', rfl, hg', _⟩
    · simp [Value.ownBlock] at hk2
    · have e1 : g = k := by simpa [Value.ownBlock] using hk
      have e2 : g' = k := by simpa [Value.ownBlock] using hk2
      subst e1 e2
      exact Blk.ne_ (t := _) (t' := _) hg hg' hne rfl

/-- Each value is a slice of its own that reads as that piece; all lie from block B0 on. -/
def Pcs (w : World) (B0 : Nat) : List Value → List (List UInt8) → Prop
  | [], [] => True
  | v :: vs, p :: ps => (Own w 5 1 v p.length (p.map bV) ∧ ∀ k, v.ownBlock = some k → B0 ≤ k) ∧ Pcs w B0 vs ps
  | _, _ => False
theorem Pcs.len {w : World} {B0 : Nat} : ∀ {vs : List Value} {ps : List (List UInt8)}, Pcs w B0 vs ps → vs.length = ps.length
  | [], [], _ => rfl
  | v :: vs, p :: ps, h => by simp [Pcs.len h.2]
  | [], _ :: _, h => h.elim
  | _ :: _, [], h => h.elim
theorem Pcs.map_ {w w' : World} {B0 : Nat} : ∀ {vs : List Value} {ps : List (List UInt8)}, Pcs w B0 vs ps →
    (∀ (v : Value) (p : List UInt8), Own w 5 1 v p.length (p.map bV) → (∀ k, v.ownBlock = some k → B0 ≤ k) → Own w' 5 1 v p.length (p.map bV)) → Pcs w' B0 vs ps
  | [], [], _, _ => trivial
  | v :: vs, p :: ps, h, f => ⟨⟨f v p h.1.1 h.1.2, h.1.2⟩, Pcs.map_ h.2 f⟩
  | [], _ :: _, h, _ => h.elim
  | _ :: _, [], h, _ => h.elim
theorem Pcs.below {w w' : World} {B0 : Nat} {vs : List Value} {ps : List (List UInt8)} (h : Pcs w B0 vs ps) (hb : Below w.heap.size w w') : Pcs w' B0 vs ps :=
  h.map_ fun _ _ ho _ => ho.below hb fun _ hk => ho.lt hk
theorem Pcs.append_ {w : World} {B0 : Nat} : ∀ {vs : List Value} {ps : List (List UInt8)} {v : Value} {p : List UInt8}, Pcs w B0 vs ps → Own w 5 1 v p.length (p.map bV) → (∀ k, v.ownBlock = some k → B0 ≤ k) →
    Pcs w B0 (vs ++ [v]) (ps ++ [p])
  | [], [], _, _, _, h1, h2 => ⟨⟨h1, h2⟩, trivial⟩
  | _ :: _, _ :: _, _, _, h, h1, h2 => ⟨h.1, Pcs.append_ h.2 h1 h2⟩
  | [], _ :: _, _, _, h, _, _ => h.elim
  | _ :: _, [], _, _, h, _, _ => h.elim
theorem Pcs.at_ {w : World} {B0 : Nat} : ∀ {vs : List Value} {ps : List (List UInt8)}, Pcs w B0 vs ps → ∀ (i : Nat) (p : List UInt8), ps[i]? = some p → ∃ v, vs[i]? = some v ∧ Own w 5 1 v p.length (p.map bV) ∧ ∀ k, v.ownBlock = some k → B0 ≤ k
  | [], [], _, i, p, h => by simp at h
  | v :: vs, q :: ps, hp, 0, p, h => by simp at h; subst h; exact ⟨v, rfl, hp.1.1, hp.1.2⟩
  | v :: vs, q :: ps, hp, i + 1, p, h => by simpa using Pcs.at_ hp.2 i p (by simpa using h)
  | [], _ :: _, hp, _, _, _ => hp.elim
  | _ :: _, [], hp, _, _, _ => hp.elim

/-- A new slice of new pieces. -/
def NewP (w w' : World) (v : Value) (ps : List (List UInt8)) : Prop :=
  ∃ vs, Own w' 22 1 v ps.length vs ∧ Pcs w' w.heap.size vs ps ∧ Below w.heap.size w w' ∧ ∀ k, v.ownBlock = some k → w.heap.size ≤ k
def RetNewP (w : World) (ps : List (List UInt8)) (e : Ending) (w' : World) : Prop := ∃ v, e = .returned v ∧ NewP w w' v ps

set_option maxHeartbeats 1000000 in
theorem clone_some (b off n c B : Nat) (bs : List UInt8) (w : World) (hr : Rd w B 1 (some ⟨b, off, none⟩) n (bs.map bV)) (hn : n ≤ 1000000) (hB : B ≤ w.heap.size) :
    Calls Try.prog 20 #[.slice (some ⟨b, off, none⟩) n c] w (RetNewB w bs) := by
  obtain ⟨i0, hi0, hz0, hz1, hz2⟩ := info_parts info5
  have hl : bs.length = n := by simpa using hr.1
  have HR := Lib.hid hr
  have HL := Lib.hid hl
  clear hr hl
  have h63 : 0 + n ≤ maxLen := by simp only [maxLen]; omega
  have H63 := Lib.hid h63
  clear h63
  have q22 : ∀ (w : World) (a : Option Addr) (n c n' c' : Nat), (binOp .eql 22 (.slice a n c) (.slice none n' c')).run Try.prog w = .ok (.bool a.isNone) w := fun w a n c n' c' => Lib.run_eql_slice_nil w _ _ a n c n' c' Try.underlying22
  go_enter Try.func20, Try.ntmps20
  go_wp2_with (at_builtin; refine wpList_append_rd _ rfl (.tmp 5) (.tmp 6) _ rfl 5 i0 _ 1 1 Try.underlying22 hi0 hz0 hz1 hz2 rfl (by omega) (.slice (some ⟨w.heap.size, 0, none⟩) 0 0) 0 [] rfl (by exact Own.lit w 5 1 0 #[] rfl (by decide)) B (some ⟨b, off, none⟩) n c (bs.map bV) rfl (by exact HR.out.below ((below_al (Below.refl _ _) _).mono hB)) (by simp [bV, Value.oneCell']) H63.out (by omega) _ rfl ?_; intro v1 w1 hown1 hgrow1 hat1)
  go_ret
  refine ⟨_, rfl, ?_, Below.grown (below_al (Below.refl _ w) _) hgrow1 (by simp) (by simp [Value.ownBlock]), ?_⟩
  · rw [HL.out]; simpa using hown1
  · intro k hk
    rcases hat1 with h | h
    · have h' := h.symm.trans hk
      have : w.heap.size = k := by simpa [Value.ownBlock] using h'
      omega
    · have h' := h.symm.trans hk
      simp at h'; omega

end Go.Proofs.Ytnigmfjghapfgaa
namespace Go.Rb
open Go.RowKit
/-- The piece that begins a slice. -/
theorem Rd.cutAt {w : World} {B n k b off : Nat} {xs : List Value} (h : Rd w B 1 (some ⟨b, off, none⟩) n xs) (hk : k ≤ n) (A : Addr) (hA : k < n → A = ⟨b, off + k, none⟩) : Rd w B 1 (some A) (n - k) (xs.drop k) := by
  refine ⟨by rw [List.length_drop, h.1]; omega, fun h0 => ?_⟩
  obtain ⟨b', off', hA', hlt, hc⟩ := h.2 (by omega)
  simp only [Option.some.injEq, Addr.mk.injEq, and_true] at hA'
  obtain ⟨rfl, rfl⟩ := hA'
  rw [hA (by omega)]
  refine ⟨b, off + k, rfl, hlt, fun j hj => ?_⟩
  rw [Nat.add_assoc, hc (k + j) (by omega), List.getElem?_drop]
end Go.Rb
namespace Go.Proofs.Ytnigmfjghapfgaa
open Go.RowKit Go.Rb
set_option maxHeartbeats 2000000 in
theorem cut_loop (bs : List UInt8) (zs : List Int) (A Z : Option Addr) (n c m d B : Nat) (w : World) (hr : Rd w B 1 A n (bs.map bV)) (hz : Rd w B 1 Z m (zs.map iV)) (hn0 : 0 < n) (hn : n ≤ 100000) (hc : n ≤ c) (hm0 : 0 < m) (hm : m ≤ 1000) (hB : B ≤ w.heap.size) :
    Calls Try.prog 19 #[.slice A n c, .slice Z m d] w (RetNewP w (cutF zs bs.length 0 bs)) := by
  obtain ⟨i0, hi0, hz0, hz1, hz2⟩ := info_parts infoB
  have hl : bs.length = n := by simpa using hr.1
  have hzl : zs.length = m := by simpa using hz.1
  have HR := Lib.hid hr
  have HZ := Lib.hid hz
  have HL := Lib.hid hl
  have HZL := Lib.hid hzl
  have hnb : ((n : Int) == 0) = false := by rw [beq_eq_false_iff_ne]; omega
  have hmb : ((m : Int) == 0) = false := by rw [beq_eq_false_iff_ne]; omega
  clear hr hz hl hzl
  obtain ⟨zb, zo, rfl, hzB, hzc⟩ := HZ.out.2 hm0
  have HZC := Lib.hid hzc
  clear hzc
  go_enter Try.func19, Try.ntmps19
  go_wp2
  go_loopw [0, 5, 6] (fun b v i wr => ∃ (k j f : Nat) (A' : Option Addr) (ps : List (List UInt8)) (vs : List Value), k ≤ n ∧ j ≤ k ∧ b = .slice A' (n - k) (c - k) ∧ i = .int .i64 j ∧ Hid (n - k ≤ f) ∧ ps.length ≤ k ∧ Hid (Rd wr B 1 A' (n - k) ((bs.drop k).map bV)) ∧
      Hid (cutF zs bs.length 0 bs = ps ++ cutF zs f j (bs.drop k)) ∧ Hid (Own wr 22 1 v ps.length vs) ∧ Hid (Pcs wr w.heap.size vs ps) ∧ Below w.heap.size w wr ∧ Hid (∀ g, v.ownBlock = some g → w.heap.size ≤ g)) (fun _ _ i _ => n - (intOf i).toNat)
  case atStart => exact ⟨0, 0, bs.length, A, [], [], by omega, by omega, rfl, rfl, by have := HL.out; show _ ≤ _; omega, by simp, HR.out, by simp [Hid], Own.nil_ _ _ _, trivial, Below.refl _ _, by simp [Hid, Value.ownBlock]⟩
  case round =>
    obtain ⟨k, j, f, A', ps, vs, hk, hjk, rfl, rfl, hf, hpl, hrd, hcut, hown, hpcs, hb, hbk⟩ := hrel
    have HB := Lib.hid hb
    clear hb
    by_cases hlt : k < n
    · obtain ⟨b, off, rfl, hbB, -⟩ := hrd.out.2 (by omega)
      obtain ⟨f, rfl⟩ : ∃ f', f = f' + 1 := ⟨f - 1, by have := hf.out; omega⟩
      have hdl : (bs.drop k).length = n - k := by rw [List.length_drop, HL.out]
      have hdn : bs.drop k ≠ [] := by intro h; rw [h] at hdl; simp at hdl; omega
      have hjm : j % m < m := Nat.mod_lt _ hm0
      obtain ⟨z, hz⟩ : ∃ z, zs.getD (j % m) 0 = z := ⟨_, rfl⟩
      have hzcell : wr.cell? ⟨zb, zo + j % m, none⟩ = some (.int .i64 z) := by
        rw [HB.out.cell (p := ⟨zb, zo + j % m, none⟩) (by show zb < _; omega), HZC.out (j % m) (by omega)]
        have : j % m < zs.length := by rw [HZL.out]; exact hjm
        rw [← hz, List.getElem?_map, List.getElem?_eq_getElem this]
        simp [iV, List.getD, List.getElem?_eq_getElem this]
      obtain ⟨q, hq⟩ : ∃ q, mOf zs j (n - k) = q := ⟨_, rfl⟩
      have hqb := mOf_bd zs j (n - k) (by omega)
      rw [hq] at hqb
      have hqe : (q : Int) = min (min (max z 1) 4096) ((n - k : Nat) : Int) := by
        rw [← hq]; unfold mOf; rw [HZL.out, hz]; omega
      have hcut' : Hid (cutF zs bs.length 0 bs = (ps ++ [(bs.drop k).take q]) ++ cutF zs f (j + 1) (bs.drop (k + q))) := by
        have := hcut.out
        rw [cutF, if_neg hdn, hdl, hq, List.drop_drop] at this
        show _ = _
        rw [this]; simp
      have hjm' : ((j : Int) % (m : Int)) = ((j % m : Nat) : Int) := by omega
      have HQ := Lib.hid hq
      have hqe' : min (max z 1) (min 4096 ((n - k : Nat) : Int)) = (q : Int) := by rw [hqe]; omega
      have HZ1 := Lib.hid hz
      have HJ := Lib.hid hjm'
      clear hcut hdl hdn hq hqe hz hjm'
      obtain ⟨hq1, hq2, hq3⟩ := hqb
      have hnk : (0 : Int) < ((n - k : Nat) : Int) := by omega
      have ht : Rd wr B 1 (some ⟨b, off, none⟩) q (((bs.drop k).take q).map bV) := by
        have := hrd.out.take_ (k := q) (by omega)
        rwa [Nat.mul_one, ← List.map_take] at this
      have HT := Lib.hid ht
      clear ht
      have hcl := clone_some b off q (c - k) B ((bs.drop k).take q) wr HT.out (by omega) (by have := HB.out.size; omega)
      have HCL := Lib.hid hcl
      clear hcl
      obtain ⟨Av, cv, rfl, -, -⟩ := hown.out.len_
      have hlen : ((bs.drop k).take q).length = q := by have := HL.out; simp; omega
      have HLEN := Lib.hid hlen
      clear hlen
      go_wp2_with (first
        | (go_at_call 20; refine HCL.out.mono ?_; rintro e1 w1 ⟨v1, rfl, hnew1, hbel1, hblk1⟩; rw [HLEN.out] at hnew1; obtain ⟨A1, c1, rfl, -, -⟩ := hnew1.len_; have hown1 := Lib.hid (hown.out.below hbel1 fun _ h => hown.out.lt h); have hpcs1 := Lib.hid (hpcs.out.below hbel1); have hnew1' := Lib.hid hnew1; clear hnew1)
        | (at_builtin; refine wpList_append_mine _ rfl (.tmp 33) (.tmp 38) _ rfl 22 i0 _ 1 24 Try.underlying46 hi0 hz0 hz1 hz2 rfl (by omega) (.slice Av ps.length cv) ps.length vs rfl (by exact hown1.out.alloc _) _ 1 1 [_] rfl rfl (by exact news_push rfl rfl) (by simp [Value.oneCell']) (by omega) (by simp only [maxLen]; omega) (by omega) _ rfl ?_; intro g2 o2 c2 w2 hown2 hgrow2 hat2))
      have hsz := HB.out.size
      have hb1 := below_trans HB.out hbel1
      have hb2 : Below w.heap.size w w2 := Below.grown (by exact hb1.alloc hb1.size _) hgrow2 (by have := hb1.size; simp; omega) (fun g hg => by have := hbk.out g hg; omega)
      have hg2 : w.heap.size ≤ g2 := by
        rcases hat2 with h | h
        · exact hbk.out g2 h
        · rw [h]; exact Nat.le_trans hb1.size (by simp)
      have hlen := HLEN.out
      have hnew2 : Own w2 5 1 (.slice A1 q c1) q (((bs.drop k).take q).map bV) := by
        have h0 := hnew1'.out
        refine (h0.alloc _).grown hgrow2 fun g hg hg' => ?_
        have h1 := hown1.out.below (Below.refl w1.heap.size w1) fun _ h => hown1.out.lt h
        exact own_ne h0 h1 (by decide) g hg hg'
      have hpcs2 : Pcs w2 w.heap.size (vs ++ [.slice A1 q c1]) (ps ++ [(bs.drop k).take q]) := by
        refine Pcs.append_ (hpcs1.out.map_ fun u p hu hub => ?_) (by rw [hlen]; exact hnew2) (fun g hg => Nat.le_trans HB.out.size (hblk1 g hg))
        exact (hu.alloc _).grown hgrow2 fun g hg hg' => own_ne hu hown1.out (by decide) g hg hg'
      have hrd2 : Rd w2 B 1 (if c - k = q then some ⟨b, off, none⟩ else some ⟨b, off + q, none⟩) (n - (k + q)) ((bs.drop (k + q)).map bV) := by
        have h0 := hrd.out.below (w' := w2) ⟨hb2.os.trans HB.out.os.symm, hb2.tape.trans HB.out.tape.symm, hb2.output.trans HB.out.output.symm, by have := hgrow2.size; have := hbel1.size; simp at *; omega, fun x hx => (hb2.block x (by omega)).trans (HB.out.block x (by omega)).symm⟩
        have h1 := h0.cutAt (k := q) (by omega) (if c - k = q then ⟨b, off, none⟩ else ⟨b, off + q, none⟩) (fun hlt => by rw [if_neg (by omega)])
        have e : n - k - q = n - (k + q) := by omega
        rw [e, ← List.map_drop, List.drop_drop] at h1
        split <;> simp_all
      refine ⟨⟨k + q, j + 1, f, _, ps ++ [(bs.drop k).take q], vs ++ [.slice A1 q c1], by omega, by omega, by congr 1 <;> omega, by simp, ?_, by simp; omega, hrd2, hcut', ?_, Lib.hid hpcs2, hb2, ?_⟩, ?_⟩
      · show _ ≤ _; have := hf.out; omega
      · show Own _ _ _ _ _ _; simpa using hown2
      · intro g hg; simp [Value.ownBlock] at hg; omega
      · simp [intOf]; omega
    · have hkn : k = n := by omega
      subst hkn
      go_wp2
      have h0 := hcut.out
      rw [show bs.drop k = [] from by rw [List.drop_eq_nil_iff]; have := HL.out; omega, cutF_nil, List.append_nil] at h0
      rw [h0]
      go_ret
      exact ⟨_, rfl, vs, hown.out, hpcs.out, HB.out, hbk.out⟩

set_option maxHeartbeats 1000000 in
/-- Cut, for any octets and sizes. -/
theorem cut_any (bs : List UInt8) (zs : List Int) (A Z : Option Addr) (n c m d B : Nat) (w : World) (hr : Rd w B 1 A n (bs.map bV)) (hz : Rd w B 1 Z m (zs.map iV)) (hn : n ≤ 100000) (hc : n ≤ c) (hm : m ≤ 1000) (hB : B ≤ w.heap.size) :
    Calls Try.prog 19 #[.slice A n c, .slice Z m d] w (RetNewP w (cutP bs zs)) := by
  have hl : bs.length = n := by simpa using hr.1
  have hzl : zs.length = m := by simpa using hz.1
  by_cases h0 : n = 0
  · subst h0
    have : bs = [] := List.eq_nil_of_length_eq_zero hl
    subst this
    have e : cutP [] zs = [] := by simp [cutP]
    rw [e]
    clear hr hz hl hzl
    go_enter Try.func19, Try.ntmps19
    go_wp2
    go_ret
    exact ⟨_, rfl, [], Own.nil_ _ _ _, trivial, Below.refl _ _, by simp [Value.ownBlock]⟩
  · have hbs : bs ≠ [] := by intro h; rw [h] at hl; exact h0 hl.symm
    by_cases hm0 : m = 0
    · subst hm0
      have hz0 : zs = [] := List.eq_nil_of_length_eq_zero hzl
      subst hz0
      have e : cutP bs [] = [bs] := by simp [cutP, hbs]
      rw [e]
      obtain ⟨b, off, rfl, -, -⟩ := hr.2 (by omega)
      have hcl := clone_some b off n c B bs w hr (by omega) hB
      have HCL := Lib.hid hcl
      have HL := Lib.hid hl
      have hnb : ((n : Int) == 0) = false := by rw [beq_eq_false_iff_ne]; omega
      clear hcl hr hz hl hzl hbs
      go_enter Try.func19, Try.ntmps19
      go_wp2_with (first
        | (go_at_call 20; refine HCL.out.mono ?_; rintro e1 w1 ⟨v1, rfl, hnew1, hbel1, hblk1⟩; rw [HL.out] at hnew1; obtain ⟨A1, c1, rfl, -, -⟩ := hnew1.len_))
      go_ret
      refine ⟨_, rfl, [.slice A1 n c1], ?_, ⟨⟨?_, hblk1⟩, trivial⟩, below_al hbel1 _, ?_⟩
      · exact Own.lit w1 _ 1 1 #[.slice A1 n c1] rfl (by decide)
      · rw [HL.out]; exact hnew1.alloc _
      · have := hbel1.size
        intro g hg; simp [Value.ownBlock] at hg; omega
    · have e : cutP bs zs = cutF zs bs.length 0 bs := by
        have : zs ≠ [] := by intro h; rw [h] at hzl; exact hm0 hzl.symm
        simp [cutP, hbs, this]
      rw [e]
      exact cut_loop bs zs A Z n c m d B w hr hz (by omega) hn hc (by omega) hm hB
end Go.Proofs.Ytnigmfjghapfgaa
