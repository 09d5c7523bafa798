/-
  a text's code points and places: plain laws; the contracts of match.point, match.Places and of reedbedref11.Of; the contract of reedbedref11.Of; the threads of match, and the contracts of their clear and of the crew's put; the contract of the crew's put; the contracts of the threads' clear and of match.begun; the contract of match.begun; a crew's states and what the loops of longest are at; no condition beyond those that each theorem states.
-/
import Derived.Test.YtjfkppbfckgckaaG02
import Derived.Lib.MinMax
import Derived.Deep.Cut
import Derived.Test.YtjfkppbfckgckaaG09
set_option linter.unusedVariables false
set_option linter.unusedSimpArgs false
namespace Go.Proofs.Ytjfkppbfckgckaa
open Go.RowKit Go.Rb

theorem getP_take (l : List UInt8) : getP (l.take 4) = getP l := by
  match l with
  | [] => rfl
  | [a] => rfl
  | [a, b] => rfl
  | [a, b, c] => rfl
  | a :: b :: c :: d :: l =>
    show getP [a, b, c, d] = _
    unfold getP
    rfl
/-- How many octets the first code point has. -/
def dn (l : List UInt8) : Nat := (getP l).2.toNat
theorem dn_bd (l : List UInt8) (h : l ≠ []) : 1 ≤ dn l ∧ dn l ≤ l.length ∧ (getP l).2 = (dn l : Int) := by
  have h1 : 1 ≤ l.length := List.length_pos_iff.2 h
  have := refP_bd l h1
  rw [refP_eq] at this
  unfold dn
  omega
def decs : Nat → List UInt8 → List (Int × Nat)
  | 0, _ => []
  | f + 1, l => if l.isEmpty then [] else ((getP l).1, dn l) :: decs f (l.drop (dn l))
/-- The k-th place. -/
def AtF (d : List (Int × Nat)) (k : Nat) : Nat := ((d.take k).map (·.2)).sum
theorem AtF_zero (d : List (Int × Nat)) : AtF d 0 = 0 := rfl
theorem AtF_cons (a : Int × Nat) (d : List (Int × Nat)) (k : Nat) : AtF (a :: d) (k + 1) = a.2 + AtF d k := by simp [AtF]
theorem AtF_succ (d : List (Int × Nat)) (k : Nat) (t : Int × Nat) (h : d[k]? = some t) : AtF d (k + 1) = AtF d k + t.2 := by
  unfold AtF
  rw [List.take_add_one, h]
  simp
theorem decs_at : ∀ (f : Nat) (l : List UInt8), l.length ≤ f → ∀ (k : Nat) (t : Int × Nat), (decs f l)[k]? = some t → getP (l.drop (AtF (decs f l) k)) = (t.1, (t.2 : Int)) ∧ 1 ≤ t.2 ∧ AtF (decs f l) k + t.2 ≤ l.length
  | 0, l, hl, k, t, h => by simp [decs] at h
  | f + 1, l, hl, k, t, h => by
    rw [decs] at h ⊢
    by_cases he : l.isEmpty = true
    · rw [if_pos he] at h; simp at h
    · rw [if_neg he] at h ⊢
      have hne : l ≠ [] := fun e => he (by rw [e]; rfl)
      obtain ⟨h1, h2, h3⟩ := dn_bd l hne
      cases k with
      | zero =>
        simp only [List.getElem?_cons_zero, Option.some.injEq] at h
        subst h
        rw [AtF_zero, List.drop_zero]
        exact ⟨Prod.ext rfl h3, h1, by simp only; omega⟩
      | succ k =>
        rw [List.getElem?_cons_succ] at h
        obtain ⟨g1, g2, g3⟩ := decs_at f (l.drop (dn l)) (by rw [List.length_drop]; omega) k t h
        rw [AtF_cons]
        simp only
        rw [List.drop_drop] at g1
        rw [List.length_drop] at g3
        exact ⟨g1, g2, by omega⟩
theorem decs_end : ∀ (f : Nat) (l : List UInt8), l.length ≤ f → AtF (decs f l) (decs f l).length = l.length
  | 0, l, hl => by
    obtain rfl := List.eq_nil_of_length_eq_zero (Nat.le_zero.1 hl)
    rfl
  | f + 1, l, hl => by
    rw [decs]
    by_cases he : l.isEmpty = true
    · rw [if_pos he]
      obtain rfl : l = [] := by simpa using he
      rfl
    · rw [if_neg he]
      have hne : l ≠ [] := fun e => he (by rw [e]; rfl)
      obtain ⟨h1, h2, h3⟩ := dn_bd l hne
      rw [List.length_cons, AtF_cons, decs_end f _ (by rw [List.length_drop]; omega), List.length_drop]
      simp only
      omega
/-- A text's code points, each with how many octets it has. -/
def decT (s : ByteArray) : List (Int × Nat) := decs s.size s.data.toList
theorem dlen (s : ByteArray) : s.data.toList.length = s.size := by rw [Array.length_toList]; rfl
theorem decT_at (s : ByteArray) (k : Nat) (t : Int × Nat) (h : (decT s)[k]? = some t) : getP (s.data.toList.drop (AtF (decT s) k)) = (t.1, (t.2 : Int)) ∧ 1 ≤ t.2 ∧ AtF (decT s) k + t.2 ≤ s.size := by
  have := decs_at s.size s.data.toList (by rw [dlen]; exact Nat.le_refl _) k t h
  rwa [dlen] at this
theorem decT_end (s : ByteArray) : AtF (decT s) (decT s).length = s.size := by
  have := decs_end s.size s.data.toList (by rw [dlen]; exact Nat.le_refl _)
  rwa [dlen] at this
theorem AtF_le (s : ByteArray) : ∀ (k j : Nat), k ≤ j → AtF (decT s) k ≤ AtF (decT s) j := by
  intro k j h
  induction h with
  | refl => exact Nat.le_refl _
  | step h ih =>
    refine Nat.le_trans ih ?_
    rename_i j
    cases hj : (decT s)[j]? with
    | some t => rw [AtF_succ _ _ _ hj]; omega
    | none =>
      have : (decT s).length ≤ j := List.getElem?_eq_none_iff.1 hj
      unfold AtF
      rw [List.take_of_length_le this, List.take_of_length_le (by omega)]
      exact Nat.le_refl _
theorem AtF_lt (s : ByteArray) (k j : Nat) (h : k < j) (hj : j ≤ (decT s).length) : AtF (decT s) k < AtF (decT s) j := by
  have hk : k < (decT s).length := by omega
  obtain ⟨t, ht⟩ : ∃ t, (decT s)[k]? = some t := ⟨_, List.getElem?_eq_getElem hk⟩
  have h1 := AtF_succ _ _ _ ht
  have h2 := (decT_at s k t ht).2.1
  have h3 := AtF_le s (k + 1) j h
  omega
theorem AtF_inj (s : ByteArray) {k j : Nat} (hk : k ≤ (decT s).length) (hj : j ≤ (decT s).length) (h : AtF (decT s) k = AtF (decT s) j) : k = j := by
  rcases Nat.lt_trichotomy k j with h1 | h1 | h1
  · have := AtF_lt s k j h1 hj; omega
  · exact h1
  · have := AtF_lt s j k h1 hk; omega
theorem AtF_size (s : ByteArray) (k : Nat) (hk : k ≤ (decT s).length) : AtF (decT s) k ≤ s.size := by
  have := AtF_le s k _ hk
  rwa [decT_end] at this
theorem decT_len (s : ByteArray) : (decT s).length ≤ s.size := by
  have key : ∀ k, k ≤ (decT s).length → k ≤ AtF (decT s) k := by
    intro k
    induction k with
    | zero => intro _; exact Nat.zero_le _
    | succ k ih =>
      intro h
      have h1 := ih (by omega)
      have := AtF_lt s k (k + 1) (by omega) h
      omega
  have := key _ (Nat.le_refl _)
  rwa [decT_end] at this
/-- The places. -/
def atL (s : ByteArray) : List Int := (List.range ((decT s).length + 1)).map fun k => (AtF (decT s) k : Int)
def rsL (s : ByteArray) : List Int := (decT s).map (·.1)
end Go.Proofs.Ytjfkppbfckgckaa
namespace Go.Proofs.Ytjfkppbfckgckaa
open Go.RowKit Go.Rb
attribute [local irreducible] Go.wpQuiet
set_option maxRecDepth 20000

theorem rd_conv (W : World) (s : ByteArray) (cap : Nat) (t : TypeId) (fr : Nat × Nat) : Rd ((W.alloc (.cells (bytesRow s cap) t fr)).drew) (W.heap.size + 1) 1 (some ⟨W.heap.size, 0, none⟩) s.size (s.data.toList.map bV) := by
  refine ⟨by simp, fun _ => ⟨W.heap.size, 0, rfl, by omega, fun j hj => ?_⟩⟩
  have hj' : j < s.size := by omega
  show (W.alloc (.cells (bytesRow s cap) t fr)).cell? ⟨W.heap.size, 0 + j, none⟩ = _
  rw [Nat.zero_add, World.cell?_alloc_mark]
  unfold bytesRow
  rw [Array.getElem?_append_left (by simpa using hj')]
  simp [bV]
  rfl

set_option maxHeartbeats 400000 in
theorem point_any (s : ByteArray) (at_ : Nat) (w : World) (hs : s.size ≤ 1000) (hat : at_ ≤ s.size) :
    Calls Try.prog 31 #[.string s, .int .i64 (at_ : Int)] w fun e w' => e = .returned (.tuple #[.int .i64 (getP (s.data.toList.drop at_)).1, .int .i64 (getP (s.data.toList.drop at_)).2]) ∧ Below w.heap.size w w' := by
  have kb := fun (W : World) (s : ByteArray) => run_bytes_of_string (P := Try.prog) W 9 92 5 s Try.underlying9 Try.underlying92 Try.underlying5
  go_enter Try.func31, Try.ntmps31
  go_wp2_with fail
  obtain ⟨h, hh⟩ : ∃ h, (min ((at_ : Int) + 4) (s.size : Int)).toNat = h := ⟨_, rfl⟩
  rw [hh]
  have hes : min h s.size - at_ = (s.extract at_ h).size := (ByteArray.size_extract).symm
  have hL : (s.extract at_ h).data.toList = (s.data.toList.drop at_).take 4 := by
    rw [ByteArray.data_extract, Array.toList_extract]
    unfold List.extract
    rw [List.take_eq_take_iff, List.length_drop, dlen]
    omega
  rw [hes]
  have hE4 : (s.extract at_ h).size ≤ 1000 := by rw [← hes]; omega
  generalize s.extract at_ h = E at hL hE4 ⊢
  have hcap := grownCap_ge w E.size 0 5
  have hrd := rd_conv w E (grownCap w E.size 0 5) 5 ((bytesRow E (grownCap w E.size 0 5)).size, (bytesRow E (grownCap w E.size 0 5)).size + 1)
  refine (codeGet_any E.data.toList _ E.size _ (w.heap.size + 1) _ hrd hcap (by omega)).mono ?_
  rintro e w' ⟨rfl, rfl⟩
  rw [hL, getP_take]
  go_wp2_with fail
  go_ret2
  exact ⟨rfl, (below_al (Below.refl _ _) _).drew⟩
/-- A slice of numbers of the call's own. -/
def ZsO (w : World) (v : Value) (zs : List Int) : Prop := Own w 3 1 v zs.length (zs.map iV)
theorem zs_snoc {w : World} {v : Value} {zs : List Int} {z : Int} (h : Own w 3 1 v (zs.length + 1) (zs.map iV ++ [.int .i64 z])) : ZsO w v (zs ++ [z]) := by
  unfold ZsO
  rw [List.length_append, List.map_append]
  exact h
theorem zs_far {v : Value} {g H B o n c : Nat} (hk : ∀ k, v.ownBlock = some k → B ≤ k) (h : v.ownBlock = some g ∨ g = H) (hH : B ≤ H) : ∀ k, (Value.slice (some ⟨g, o, none⟩) n c).ownBlock = some k → B ≤ k := by
  intro k e
  have e2 : g = k := by simpa [Value.ownBlock] using e
  subst e2
  rcases h with h | h
  · exact hk _ h
  · omega
/-- The places up to the k-th. -/
def atK (s : ByteArray) (k : Nat) : List Int := (List.range (k + 1)).map fun k => (AtF (decT s) k : Int)
theorem atK_len (s : ByteArray) (k : Nat) : (atK s k).length = k + 1 := by simp [atK]
theorem atK_succ (s : ByteArray) (k : Nat) : atK s (k + 1) = atK s k ++ [(AtF (decT s) (k + 1) : Int)] := by
  unfold atK
  rw [List.range_succ, List.map_append]
  rfl
theorem atK_zero (s : ByteArray) : atK s 0 = [0] := rfl
theorem atK_at (s : ByteArray) (k j : Nat) (h : j ≤ k) : (atK s k)[j]? = some (AtF (decT s) j : Int) := by
  unfold atK
  rw [List.getElem?_map, List.getElem?_range (by omega)]
  rfl
set_option maxHeartbeats 1000000 in
theorem places_any (s : ByteArray) (w : World) (hs : s.size ≤ 1000) : Calls Try.prog 17 #[.string s] w fun e w' => ∃ v, e = .returned v ∧ ZsO w' v (atL s) ∧ (∀ k, v.ownBlock = some k → w.heap.size ≤ k) ∧ Below w.heap.size w w' := by
  obtain ⟨i0, hi0, hz0, hz1, hz2⟩ := info_parts info3
  have HML := Lib.hid (decT_len s)
  obtain ⟨m, hm⟩ : ∃ m, (decT s).length = m := ⟨_, rfl⟩
  have HM := Lib.hid hm
  have HA : Hid (atL s = atK s m) := by show _ = _; rw [← hm]; rfl
  have HE : Hid (AtF (decT s) m = s.size) := by show _ = _; rw [← hm]; exact decT_end s
  rw [HA.out]
  rw [hm] at HML
  have hm1000 : m ≤ 1000 := by have := HML.out; omega
  clear hm
  go_enter Try.func17, Try.ntmps17
  go_wp2_with fail
  go_loopw [3, 4] (fun v3 v4 wr => ∃ (k a : Nat) (zs : List Int), v4 = .int .i64 (a : Int) ∧ k ≤ m ∧ a ≤ s.size ∧ zs.length = k + 1 ∧ Hid (a = AtF (decT s) k) ∧ Hid (zs = atK s k) ∧ Hid (ZsO wr v3 zs) ∧ Hid (∀ k, v3.ownBlock = some k → w.heap.size ≤ k) ∧ Hid (Below w.heap.size w wr)) (fun _ v4 _ => s.size - (intOf v4).toNat)
  case atStart =>
    refine ⟨0, 0, [0], rfl, by omega, by omega, rfl, rfl, rfl, ?_, ?_, below_al (Below.refl _ _) _⟩
    · have := Own.lit w 3 1 1 #[.int .i64 0] rfl (by decide)
      exact this
    · intro k hk
      have : w.heap.size = k := by simpa [Value.ownBlock] using hk
      omega
  case round =>
  obtain ⟨k, a, zs, rfl, hkm, has, hzl, HAK, HZ, HO, HK, HB⟩ := hrel
  obtain ⟨A3, c3, rfl, hc3, -⟩ := HO.out.len_
  have HZL := Lib.hid hzl
  have hzb : zs.length ≤ 1001 := by omega
  clear hzl
  by_cases hlt : a < s.size
  · have hkl : k < m := by
      rcases Nat.lt_or_ge k m with h | h
      · exact h
      · have h1 := HAK.out
        have h2 := HE.out
        obtain rfl : k = m := by omega
        omega
    obtain ⟨t, ht⟩ : ∃ t, (decT s)[k]? = some t := ⟨_, List.getElem?_eq_getElem (by rw [HM.out]; exact hkl)⟩
    obtain ⟨h1, h2, h3⟩ := decT_at s k t ht
    have h4 := AtF_succ _ _ _ ht
    rw [← HAK.out] at h1 h3 h4
    have HP := Lib.hid (point_any s a wr hs has)
    rw [h1] at HP
    obtain ⟨r, d⟩ := t
    simp only at h1 h2 h3 h4 HP
    have H4 : Hid (a + d = AtF (decT s) (k + 1)) := h4.symm
    clear h1 h4 ht
    go_wp2_with fail
    refine HP.out.mono ?_
    rintro e1 w1 ⟨rfl, hb1⟩
    have HB1 := Lib.hid (below_trans HB.out hb1)
    have HO1 := Lib.hid (HO.out.below hb1 fun k hk => HO.out.lt hk)
    have hs1 := HB1.out.size
    clear hb1 HP
    go_wp2_with (at_builtin; refine wpList_append_mine _ rfl (.tmp 21) (.tmp 23) _ rfl 3 i0 _ 1 8 Try.underlying38 hi0 hz0 hz1 hz2 rfl (by omega) (.slice A3 zs.length c3) zs.length (zs.map iV) rfl (by exact HO1.out.alloc _) _ 1 1 [_] rfl rfl (by exact news_push rfl rfl) (by simp [Value.oneCell']) (by omega) (by simp only [maxLen]; omega) (by omega) _ rfl ?_; intro g5 o5 c5 w5 hown5 hgrow5 hat5; have HZ5 := Lib.hid (zs_snoc (z := (a : Int) + (d : Int)) hown5); have HB5 := Lib.hid (Below.grown (HB1.out.alloc HB1.out.size _) hgrow5 (by simp; omega) HK.out); have HK5 := Lib.hid (zs_far (o := o5) (n := zs.length + 1) (c := c5) (B := w.heap.size) HK.out hat5 (by simp; omega)); clear hown5 hgrow5 hat5)
    go_roundw
    case rel => exact ⟨k + 1, a + d, zs ++ [(a : Int) + (d : Int)], by go_num, by omega, by omega, by have := HZL.out; simp; omega, H4.out, by show _ = _; rw [atK_succ, ← HZ.out, ← H4.out]; simp, HZ5.out, HK5.out, HB5.out⟩
    case measure => simp [intOf] <;> omega
  · have hkl : k = m := by
      have h1 := HAK.out
      rcases Nat.lt_or_ge k m with h | h
      · have := AtF_lt s k m h (by rw [HM.out]; exact Nat.le_refl _)
        have h2 := HE.out
        omega
      · omega
    subst hkl
    go_wp2_with fail
    go_ret
    exact ⟨_, rfl, by rw [← HZ.out]; exact HO.out, HK.out, HB.out⟩
end Go.Proofs.Ytjfkppbfckgckaa
namespace Go.Proofs.Ytjfkppbfckgckaa
open Go.RowKit Go.Rb
attribute [local irreducible] Go.wpQuiet
set_option maxRecDepth 20000

theorem own_blk_ne {w : World} {e t : TypeId} {sz n g : Nat} {v : Value} {xs : List Value} {cs : Array Value} (h : Own w e sz v n xs) (hb : Blk w g t cs) (hne : e ≠ t) : v.ownBlock ≠ some g := by
  intro hk
  rcases h.2 with ⟨rfl, _⟩ | ⟨g', off, cap, cur, rfl, hg, _⟩
  · simp [Value.ownBlock] at hk
  · have e1 : g' = g := by simpa [Value.ownBlock] using hk
    subst e1
    unfold Blk at hb
    rw [hb] at hg
    simp at hg
    exact hne hg.2.symm
/-- A text under way: its code points and its places. -/
structure TxM (B : Nat) (w : World) (tt : Nat) (vr va : Value) (rs ps : List Int) : Prop where
  blk : Blk w tt 41 #[vr, va]
  r : ZsO w vr rs
  a : ZsO w va ps
  ne : ∀ k, vr.ownBlock = some k → va.ownBlock ≠ some k
  rb : ∀ k, vr.ownBlock = some k → B ≤ k
  ab : ∀ k, va.ownBlock = some k → B ≤ k
theorem TxM.under {B : Nat} {w w' : World} {tt : Nat} {vr va : Value} {rs ps : List Int} (h : TxM B w tt vr va rs ps) (hb : Below w.heap.size w w') : TxM B w' tt vr va rs ps :=
  ⟨h.blk.below hb h.blk.lt, Own.below h.r hb fun k hk => Own.lt h.r hk, Own.below h.a hb fun k hk => Own.lt h.a hk, h.ne, h.rb, h.ab⟩
theorem TxM.r_push {B : Nat} {w w' : World} {tt g o c : Nat} {vr va : Value} {rs ps : List Int} {z : Int} {ob : Obj} (h : TxM B w tt vr va rs ps) (hB : B ≤ w.heap.size) (hg : (w.alloc ob).grownBy w' vr.ownBlock) (hO : Own w' 3 1 (.slice (some ⟨g, o, none⟩) (rs.length + 1) c) (rs.length + 1) (rs.map iV ++ [.int .i64 z])) (hat : vr.ownBlock = some g ∨ g = w.heap.size + 1) :
    Blk w' tt 41 #[vr, va] ∧ TxM B (w'.setCell ⟨tt, 0, none⟩ (.slice (some ⟨g, o, none⟩) (rs.length + 1) c)) tt (.slice (some ⟨g, o, none⟩) (rs.length + 1) c) va (rs ++ [z]) ps := by
  have hb : Blk w' tt 41 #[vr, va] := (h.blk.alloc ob).grown hg (fun e => own_blk_ne h.r h.blk (by decide) e.symm)
  have ha : ZsO w' va ps := Own.grown (Own.alloc h.a ob) hg fun k hk e => h.ne k e hk
  refine ⟨hb, hb.set_ 0 _, zs_snoc (Own.setCell (p := ⟨tt, 0, none⟩) hO (own_blk_ne hO hb (by decide)) _), Own.setCell (p := ⟨tt, 0, none⟩) ha (own_blk_ne ha hb (by decide)) _, ?_, zs_far h.rb hat (by omega), h.ab⟩
  intro k hk e
  have e2 : g = k := by simpa [Value.ownBlock] using hk
  subst e2
  rcases hat with h1 | h1
  · exact h.ne _ h1 e
  · have := Own.lt h.a e
    omega
theorem TxM.a_push {B : Nat} {w w' : World} {tt g o c : Nat} {vr va : Value} {rs ps : List Int} {z : Int} {ob : Obj} (h : TxM B w tt vr va rs ps) (hB : B ≤ w.heap.size) (hg : (w.alloc ob).grownBy w' va.ownBlock) (hO : Own w' 3 1 (.slice (some ⟨g, o, none⟩) (ps.length + 1) c) (ps.length + 1) (ps.map iV ++ [.int .i64 z])) (hat : va.ownBlock = some g ∨ g = w.heap.size + 1) :
    Blk w' tt 41 #[vr, va] ∧ TxM B (w'.setCell ⟨tt, 1, none⟩ (.slice (some ⟨g, o, none⟩) (ps.length + 1) c)) tt vr (.slice (some ⟨g, o, none⟩) (ps.length + 1) c) rs (ps ++ [z]) := by
  have hb : Blk w' tt 41 #[vr, va] := (h.blk.alloc ob).grown hg (fun e => own_blk_ne h.a h.blk (by decide) e.symm)
  have hr : ZsO w' vr rs := Own.grown (Own.alloc h.r ob) hg fun k hk e => h.ne k hk e
  refine ⟨hb, hb.set_ 1 _, Own.setCell (p := ⟨tt, 1, none⟩) hr (own_blk_ne hr hb (by decide)) _, zs_snoc (Own.setCell (p := ⟨tt, 1, none⟩) hO (own_blk_ne hO hb (by decide)) _), ?_, h.rb, zs_far h.ab hat (by omega)⟩
  intro k hk e
  have e2 : g = k := by simpa [Value.ownBlock] using e
  subst e2
  rcases hat with h1 | h1
  · exact h.ne _ hk h1
  · have := Own.lt h.r hk
    omega
theorem rsT_succ {s : ByteArray} {k : Nat} {t : Int × Nat} (h : (decT s)[k]? = some t) : ((decT s).take (k + 1)).map (·.1) = ((decT s).take k).map (·.1) ++ [t.1] := by
  rw [List.take_add_one, h]; simp
/-- What Of answers. -/
def RetOf (s : ByteArray) (w : World) (e : Ending) (w' : World) : Prop := ∃ vr va, e = .returned (.agg #[vr, va]) ∧ ZsO w' vr (rsL s) ∧ ZsO w' va (atL s) ∧ (∀ k, vr.ownBlock = some k → w.heap.size ≤ k) ∧ (∀ k, va.ownBlock = some k → w.heap.size ≤ k) ∧ Below w.heap.size w w'
set_option maxHeartbeats 2000000 in
theorem of_any (s : ByteArray) (w : World) (hs : s.size ≤ 1000) : Calls Try.prog 18 #[.string s] w (RetOf s w) := by
  obtain ⟨i0, hi0, hz0, hz1, hz2⟩ := info_parts info3
  have HML := Lib.hid (decT_len s)
  obtain ⟨m, hm⟩ : ∃ m, (decT s).length = m := ⟨_, rfl⟩
  have HM := Lib.hid hm
  have HA : Hid (atL s = atK s m) := by show _ = _; rw [← hm]; rfl
  have HE : Hid (AtF (decT s) m = s.size) := by show _ = _; rw [← hm]; exact decT_end s
  rw [hm] at HML
  have hm1000 : m ≤ 1000 := by have := HML.out; omega
  clear hm
  go_enter Try.func18, Try.ntmps18
  go_upto_region 2 with fail
  have hb0 : Below w.heap.size w (((w.alloc (.cells #[.slice none 0 0, .slice none 0 0] 41)).alloc (.cells #[.int .i64 0] 3)).alloc (.cells #[.slice none 0 0, .slice (some ⟨w.heap.size + 1, 0, none⟩) 1 1] 41)) := ((below_al (Below.refl _ _) _).alloc (by simp) _).alloc (by simp; omega) _
  have hr0 : Blk (((w.alloc (.cells #[.slice none 0 0, .slice none 0 0] 41)).alloc (.cells #[.int .i64 0] 3)).alloc (.cells #[.slice none 0 0, .slice (some ⟨w.heap.size + 1, 0, none⟩) 1 1] 41)) w.heap.size 41 #[.slice none 0 0, .slice none 0 0] := ((Blk.new _ _ _).alloc _).alloc _
  have ht0 : TxM w.heap.size (((w.alloc (.cells #[.slice none 0 0, .slice none 0 0] 41)).alloc (.cells #[.int .i64 0] 3)).alloc (.cells #[.slice none 0 0, .slice (some ⟨w.heap.size + 1, 0, none⟩) 1 1] 41)) (w.heap.size + 1 + 1) (.slice none 0 0) (.slice (some ⟨w.heap.size + 1, 0, none⟩) 1 1) [] [0] := by
    refine ⟨?_, Own.nil_ _ _ _, ?_, by simp [Value.ownBlock], by simp [Value.ownBlock], ?_⟩
    · have := Blk.new ((w.alloc (.cells #[.slice none 0 0, .slice none 0 0] 41)).alloc (.cells #[.int .i64 0] 3)) 41 #[.slice none 0 0, .slice (some ⟨w.heap.size + 1, 0, none⟩) 1 1]
      simpa using this
    · have := (Own.lit (w.alloc (.cells #[.slice none 0 0, .slice none 0 0] 41)) 3 1 1 #[.int .i64 0] rfl (by decide)).alloc (.cells #[.slice none 0 0, .slice (some ⟨w.heap.size + 1, 0, none⟩) 1 1] 41)
      simpa [ZsO, iV] using this
    · intro k hk
      have : w.heap.size + 1 = k := by simpa [Value.ownBlock] using hk
      omega
  generalize ((w.alloc (.cells #[.slice none 0 0, .slice none 0 0] 41)).alloc (.cells #[.int .i64 0] 3)).alloc (.cells #[.slice none 0 0, .slice (some ⟨w.heap.size + 1, 0, none⟩) 1 1] 41) = w0 at hb0 hr0 ht0 ⊢
  obtain ⟨tt, htt⟩ : ∃ tt, w.heap.size + 1 + 1 = tt := ⟨_, rfl⟩
  rw [htt] at ht0 ⊢
  have hnt : w.heap.size ≠ tt := by omega
  have hntb : w.heap.size ≤ tt := by omega
  have HB0 := Lib.hid hb0
  have HR0 := Lib.hid hr0
  have HT0 := Lib.hid ht0
  clear hb0 hr0 ht0 htt
  go_wp2_with fail
  go_loopw [4] (fun v4 wr => ∃ (k a : Nat) (vr va : Value) (rs ps : List Int), v4 = .int .i64 (a : Int) ∧ k ≤ m ∧ a ≤ s.size ∧ Hid (a = AtF (decT s) k) ∧ Hid (rs = ((decT s).take k).map (·.1)) ∧ Hid (ps = atK s k) ∧ Hid (TxM w.heap.size wr tt vr va rs ps) ∧ Hid (Blk wr w.heap.size 41 #[.slice none 0 0, .slice none 0 0]) ∧ Hid (Below w.heap.size w wr)) (fun v4 _ => s.size - (intOf v4).toNat)
  case atStart => exact ⟨0, 0, _, _, [], [0], rfl, by omega, by omega, rfl, rfl, rfl, HT0.out, HR0.out, HB0.out⟩
  case round =>
  obtain ⟨k, a, vr, va, rs, ps, rfl, hkm, has, HAK, HRS, HPS, HTX, HRB, HB⟩ := hrel
  obtain ⟨Ar, cr, rfl, -, -⟩ := HTX.out.r.len_
  obtain ⟨Aa, ca, rfl, -, -⟩ := HTX.out.a.len_
  have HRL : Hid (rs.length = k) := by show _ = _; rw [HRS.out, List.length_map, List.length_take, HM.out]; omega
  have HPL : Hid (ps.length = k + 1) := by show _ = _; rw [HPS.out, atK_len]
  have hrl : rs.length ≤ 1000 := by have := HRL.out; omega
  have hpl : ps.length ≤ 1001 := by have := HPL.out; omega
  by_cases hlt : a < s.size
  · have hkl : k < m := by
      rcases Nat.lt_or_ge k m with h | h
      · exact h
      · have h1 := HAK.out
        have h2 := HE.out
        obtain rfl : k = m := by omega
        omega
    obtain ⟨t, ht⟩ : ∃ t, (decT s)[k]? = some t := ⟨_, List.getElem?_eq_getElem (by rw [HM.out]; exact hkl)⟩
    obtain ⟨h1, h2, h3⟩ := decT_at s k t ht
    have h4 := AtF_succ _ _ _ ht
    have h5 := rsT_succ ht
    rw [← HAK.out] at h1 h3 h4
    have hGET := refGet_any (s.extract a s.size) (by rw [ByteArray.size_extract]; omega) wr
    rw [extract_drop, refP_eq, h1] at hGET
    have HP := Lib.hid hGET
    obtain ⟨r, d⟩ := t
    simp only at h1 h2 h3 h4 h5 HP
    have H4 : Hid (a + d = AtF (decT s) (k + 1)) := h4.symm
    have H5 : Hid (rs ++ [r] = ((decT s).take (k + 1)).map (·.1)) := by show _ = _; rw [h5, HRS.out]
    clear h1 h4 h5 ht hGET
    go_wp2_with fail
    refine HP.out.mono ?_
    rintro e1 w1 ⟨rfl, hb1⟩
    have HB1 := Lib.hid (below_trans HB.out hb1)
    have HRB1 := Lib.hid (HRB.out.below hb1 HRB.out.lt)
    have htx1 := HTX.out.under hb1
    have HTX1 := Lib.hid htx1
    have hs1 := HB1.out.size
    have y0 := htx1.blk.cell 0
    have y1 := htx1.blk.cell 1
    have z0 := htx1.blk.frozen 0
    have htl := htx1.blk.lt
    simp only [List.getElem?_toArray, List.getElem?_cons_succ, List.getElem?_cons_zero] at y0 y1
    clear hb1 HP htx1
    go_upto_region 7 with (at_builtin; refine wpList_append_mine _ rfl (.tmp 24) (.tmp 26) _ rfl 3 i0 _ 1 8 Try.underlying38 hi0 hz0 hz1 hz2 rfl (by omega) (.slice Ar rs.length cr) rs.length (rs.map iV) rfl (by exact HTX1.out.r.alloc _) _ 1 1 [_] rfl rfl (by exact news_push rfl rfl) (by simp [Value.oneCell']) (by omega) (by simp only [maxLen]; omega) (by omega) _ rfl ?_; intro g5 o5 c5 w5 hown5 hgrow5 hat5; have hpp := TxM.r_push (g := g5) (o := o5) (c := c5) (z := r) HTX1.out hs1 hgrow5 hown5 (by simpa using hat5); have HTX5 := Lib.hid hpp.2; have hbt5 := hpp.1; have HB5 := Lib.hid (Below.grown (HB1.out.alloc HB1.out.size _) hgrow5 (by simp; omega) HTX1.out.rb); have HRB5 := Lib.hid ((HRB1.out.alloc (.cells #[.int .i64 r] 3)).grown hgrow5 (fun e => own_blk_ne HTX1.out.r HRB1.out (by decide) e.symm)); have x0 := hbt5.cell 0; have f0 := hbt5.frozen 0; have hl5 := hbt5.lt; simp only [List.getElem?_toArray, List.getElem?_cons_zero] at x0; clear hown5 hgrow5 hat5 hpp hbt5)
    have HB6 := Lib.hid (HB5.out.setCell (p := ⟨tt, 0, none⟩) hntb (.slice (some ⟨g5, o5, none⟩) (rs.length + 1) c5))
    have HRB6 := Lib.hid (HRB5.out.far (p := ⟨tt, 0, none⟩) hnt (.slice (some ⟨g5, o5, none⟩) (rs.length + 1) c5))
    generalize w5.setCell ⟨tt, 0, none⟩ (.slice (some ⟨g5, o5, none⟩) (rs.length + 1) c5) = w6 at HTX5 HB6 HRB6 ⊢
    have hs6 := HB6.out.size
    have q0 := HTX5.out.blk.cell 0
    have q1 := HTX5.out.blk.cell 1
    have htl6 := HTX5.out.blk.lt
    simp only [List.getElem?_toArray, List.getElem?_cons_succ, List.getElem?_cons_zero] at q0 q1
    clear x0 f0 hl5 y0 y1 z0 htl HTX1 HRB1 HB5 HRB5
    go_wp2_with (at_builtin; refine wpList_append_mine _ rfl (.tmp 30) (.tmp 32) _ rfl 3 i0 _ 1 8 Try.underlying38 hi0 hz0 hz1 hz2 rfl (by omega) (.slice Aa ps.length ca) ps.length (ps.map iV) rfl (by exact HTX5.out.a.alloc _) _ 1 1 [_] rfl rfl (by exact news_push rfl rfl) (by simp [Value.oneCell']) (by omega) (by simp only [maxLen]; omega) (by omega) _ rfl ?_; intro g7 o7 c7 w7 hown7 hgrow7 hat7; have hpp := TxM.a_push (g := g7) (o := o7) (c := c7) (z := (a : Int) + (d : Int)) HTX5.out hs6 hgrow7 hown7 (by simpa using hat7); have HTX7 := Lib.hid hpp.2; have hbt7 := hpp.1; have HB7 := Lib.hid (Below.grown (HB6.out.alloc HB6.out.size _) hgrow7 (by simp; omega) HTX5.out.ab); have HRB7 := Lib.hid ((HRB6.out.alloc (.cells #[.int .i64 ((a : Int) + (d : Int))] 3)).grown hgrow7 (fun e => own_blk_ne HTX5.out.a HRB6.out (by decide) e.symm)); have x0 := hbt7.cell 1; have f0 := hbt7.frozen 1; have hl7 := hbt7.lt; simp only [List.getElem?_toArray, List.getElem?_cons_succ, List.getElem?_cons_zero] at x0; clear hown7 hgrow7 hat7 hpp hbt7)
    go_roundw
    case rel => exact ⟨k + 1, a + d, _, _, rs ++ [r], ps ++ [(a : Int) + (d : Int)], by go_num, by omega, by omega, H4.out, H5.out, by show _ = _; rw [atK_succ, ← HPS.out, ← H4.out]; simp, HTX7.out, HRB7.out.far (p := ⟨tt, 1, none⟩) hnt _, HB7.out.setCell (p := ⟨tt, 1, none⟩) hntb _⟩
    case measure => simp [intOf] <;> omega
  · have hkl : k = m := by
      have h1 := HAK.out
      rcases Nat.lt_or_ge k m with h | h
      · have := AtF_lt s k m h (by rw [HM.out]; exact Nat.le_refl _)
        have h2 := HE.out
        omega
      · omega
    subst hkl
    have y0 := HTX.out.blk.cell 0
    have y1 := HTX.out.blk.cell 1
    have htl := HTX.out.blk.lt
    have q0 := HRB.out.cell 0
    have q1 := HRB.out.cell 1
    have f0 := HRB.out.frozen 0
    have f1 := HRB.out.frozen 1
    have hrl := HRB.out.lt
    simp only [List.getElem?_toArray, List.getElem?_cons_succ, List.getElem?_cons_zero] at y0 y1 q0 q1
    go_wp2_with fail
    have hb2 := (HRB.out.set_ 0 (.slice Ar rs.length cr)).set_ 1 (.slice Aa ps.length ca)
    have hB2 := (HB.out.setCell (p := ⟨w.heap.size, 0, none⟩) (Nat.le_refl _) (.slice Ar rs.length cr)).setCell (p := ⟨w.heap.size, 1, none⟩) (Nat.le_refl _) (.slice Aa ps.length ca)
    have hr2 : ZsO ((wr.setCell ⟨w.heap.size, 0, none⟩ (.slice Ar rs.length cr)).setCell ⟨w.heap.size, 1, none⟩ (.slice Aa ps.length ca)) (.slice Ar rs.length cr) rs := Own.setCell (p := ⟨w.heap.size, 1, none⟩) (Own.setCell (p := ⟨w.heap.size, 0, none⟩) HTX.out.r (own_blk_ne HTX.out.r HRB.out (by decide)) _) (own_blk_ne HTX.out.r HRB.out (by decide)) _
    have ha2 : ZsO ((wr.setCell ⟨w.heap.size, 0, none⟩ (.slice Ar rs.length cr)).setCell ⟨w.heap.size, 1, none⟩ (.slice Aa ps.length ca)) (.slice Aa ps.length ca) ps := Own.setCell (p := ⟨w.heap.size, 1, none⟩) (Own.setCell (p := ⟨w.heap.size, 0, none⟩) HTX.out.a (own_blk_ne HTX.out.a HRB.out (by decide)) _) (own_blk_ne HTX.out.a HRB.out (by decide)) _
    generalize (wr.setCell ⟨w.heap.size, 0, none⟩ (.slice Ar rs.length cr)).setCell ⟨w.heap.size, 1, none⟩ (.slice Aa ps.length ca) = w9 at hb2 hB2 hr2 ha2 ⊢
    have x0 := hb2.cell 0
    have x1 := hb2.cell 1
    simp at x0 x1
    have HBB := Lib.hid hB2
    have HR2 := Lib.hid hr2
    have HA2 := Lib.hid ha2
    clear hb2 hB2 hr2 ha2 y0 y1 q0 q1 f0 f1
    try simp only [Exit.inBlock, Exit.then]
    refine bodyPost_ret (by simp [results, Try.results18, go_sem, x0, x1]; try rfl) rfl ?_
    refine ⟨_, _, rfl, ?_, ?_, HTX.out.rb, HTX.out.ab, HBB.out⟩
    · have e : rsL s = rs := by rw [rsL, HRS.out, List.take_of_length_le (by rw [HM.out]; exact Nat.le_refl _)]
      rw [e]; exact HR2.out
    · rw [HA.out, ← HPS.out]; exact HA2.out
end Go.Proofs.Ytjfkppbfckgckaa
namespace Go.Proofs.Ytjfkppbfckgckaa
open Go.RowKit Go.Rb
attribute [local irreducible] Go.wpQuiet
set_option maxRecDepth 20000

/-- A program in a slice that is read. -/
def PRd (w : World) (B : Nat) (A : Option Addr) (p : List Ins) : Prop := p ≠ [] → ∃ b off, A = some ⟨b, off, none⟩ ∧ b < B ∧ ∀ (i : Nat) (t : Ins), p[i]? = some t → ∃ A1 c1, t.set.length ≤ c1 ∧ RgR w B A1 t.set ∧ w.cell? ⟨b, off + i * 4, none⟩ = some (.int .i64 t.op) ∧
  w.cell? ⟨b, off + i * 4 + 1, none⟩ = some (.slice A1 t.set.length c1) ∧ w.cell? ⟨b, off + i * 4 + 2, none⟩ = some (.int .i64 t.x) ∧ w.cell? ⟨b, off + i * 4 + 3, none⟩ = some (.int .i64 t.y)
theorem PRd.below {w w' : World} {B : Nat} {A : Option Addr} {p : List Ins} (h : PRd w B A p) (hb : Below B w w') : PRd w' B A p := fun hs => by
  obtain ⟨b, off, hA, hlt, hc⟩ := h hs
  refine ⟨b, off, hA, hlt, fun i t hi => ?_⟩
  obtain ⟨A1, c1, h1, h2, h3, h4, h5, h6⟩ := hc i t hi
  exact ⟨A1, c1, h1, h2.below hb, (hb.cell (p := ⟨b, _, none⟩) hlt).trans h3, (hb.cell (p := ⟨b, _, none⟩) hlt).trans h4, (hb.cell (p := ⟨b, _, none⟩) hlt).trans h5, (hb.cell (p := ⟨b, _, none⟩) hlt).trans h6⟩
/-- Programs that are right. -/
def RightI (p : List Ins) : Prop := ∀ (i : Nat) (t : Ins), p[i]? = some t → 0 ≤ t.op ∧ t.op ≤ 4 ∧ (t.op ≠ 0 → 0 ≤ t.x ∧ t.x < (p.length : Int)) ∧ (t.op = 2 → 0 ≤ t.y ∧ t.y < (p.length : Int))
/-- A list of threads. -/
structure Th (w : World) (B t mb : Nat) (v : Value) (n : Nat) (mk : List Int) (now : Int) (l : List Nat) : Prop where
  blk : Blk w t 86 #[v, .slice (some ⟨mb, 0, none⟩) n n, .int .i64 now]
  mkb : Blk w mb 3 (mk.map iV).toArray
  ml : mk.length = n
  own : Own w 3 1 v l.length (l.map fun (i : Nat) => Value.int .i64 (i : Int))
  ne : v.ownBlock ≠ some mb
  tB : B ≤ t
  mB : B ≤ mb
  vB : ∀ k, v.ownBlock = some k → B ≤ k
/-- What a list of threads may change. -/
def TS (t mb : Nat) (v : Value) : Nat → Prop := fun q => q = t ∨ q = mb ∨ v.ownBlock = some q
def TW (w w' : World) (t mb : Nat) (v v' : Value) : Prop := Only (TS t mb v) w w' ∧ ∀ q, v'.ownBlock = some q → v.ownBlock = some q ∨ w.heap.size ≤ q
theorem TW.refl (w : World) (t mb : Nat) (v : Value) : TW w w t mb v v := ⟨Only.refl _ _, fun _ h => .inl h⟩
theorem TW.trans {w w' w'' : World} {t mb : Nat} {v v' v'' : Value} (h : TW w w' t mb v v') (h' : TW w' w'' t mb v' v'') : TW w w'' t mb v v'' := by
  refine ⟨h.1.trans h'.1 fun k hk hs => ?_, fun q hq => ?_⟩
  · rcases hs with rfl | rfl | hs
    · exact .inl rfl
    · exact .inr (.inl rfl)
    · rcases h.2 k hs with h1 | h1
      · exact .inr (.inr h1)
      · omega
  · rcases h'.2 q hq with h1 | h1
    · exact h.2 q h1
    · exact .inr (Nat.le_trans h.1.size h1)
theorem TW.of_below {w w' : World} {t mb : Nat} {v : Value} (h : Below w.heap.size w w') : TW w w' t mb v v := ⟨(Only.of_below h).mono fun k hk h => absurd hk (by omega), fun _ h => .inl h⟩
theorem Th.under {w w' : World} {B t mb n : Nat} {v : Value} {mk : List Int} {now : Int} {l : List Nat} (h : Th w B t mb v n mk now l) (hb : Below w.heap.size w w') : Th w' B t mb v n mk now l :=
  ⟨h.blk.below hb h.blk.lt, h.mkb.below hb h.mkb.lt, h.ml, Own.below h.own hb fun k hk => Own.lt h.own hk, h.ne, h.tB, h.mB, h.vB⟩
theorem TW.below {w w' : World} {B t mb n : Nat} {v v' : Value} {mk : List Int} {now : Int} {l : List Nat} (h : TW w w' t mb v v') (hT : Th w B t mb v n mk now l) : Below B w w' := by
  refine h.1.below (Nat.le_trans hT.tB (Nat.le_of_lt hT.blk.lt)) ?_
  rintro k (rfl | rfl | hk)
  · exact hT.tB
  · exact hT.mB
  · exact hT.vB k hk
theorem TW.blk {w w' : World} {B t mb n : Nat} {v v' : Value} {mk : List Int} {now : Int} {l : List Nat} (h : TW w w' t mb v v') (hT : Th w B t mb v n mk now l) {g : Nat} {ty : TypeId} {cs : Array Value} (hb : Blk w g ty cs) (h1 : ty ≠ 86) (h2 : ty ≠ 3) : Blk w' g ty cs := by
  refine hb.only h.1 ?_
  rintro (rfl | rfl | hk)
  · exact hb.ne_ hT.blk h1 rfl
  · exact hb.ne_ hT.mkb h2 rfl
  · exact own_blk_ne hT.own hb (fun e => h2 e.symm) hk
def Mrk (mk : List Int) (now : Int) : Nat → Prop := fun j => mk[j]? = some now
def cnt (mk : List Int) (now : Int) : Nat := mk.countP fun x => decide (x ≠ now)
theorem cnt_set {mk : List Int} {now x : Int} {i : Nat} (hi : mk[i]? = some x) (hx : x ≠ now) : cnt (mk.set i now) now + 1 = cnt mk now := by
  unfold cnt
  induction mk generalizing i with
  | nil => simp at hi
  | cons a mk ih =>
    cases i with
    | zero =>
      obtain rfl : a = x := by simpa using hi
      simp [List.countP_cons, hx]
    | succ i =>
      have := ih (i := i) (by simpa using hi)
      simp only [List.set_cons_succ, List.countP_cons]
      omega
theorem cnt_le (mk : List Int) (now : Int) : cnt mk now ≤ mk.length := List.countP_le_length
theorem Mrk_set {mk : List Int} {now x : Int} {i : Nat} (hi : mk[i]? = some x) : Mrk (mk.set i now) now = fun j => Mrk mk now j ∨ j = i := by
  have hil := (List.getElem?_eq_some_iff.1 hi).1
  funext j
  unfold Mrk
  rw [List.getElem?_set]
  by_cases hj : i = j
  · subst hj
    simp [hil]
  · have : ¬ j = i := fun e => hj e.symm
    simp [hj, this]
/-- An instruction is marked. -/
theorem Th.mark {w : World} {B t mb n i : Nat} {v : Value} {mk : List Int} {now : Int} {l : List Nat} (h : Th w B t mb v n mk now l) : Th (w.setCell ⟨mb, i, none⟩ (.int .i64 now)) B t mb v n (mk.set i now) now l := by
  have hne : t ≠ mb := h.blk.ne_ h.mkb (by decide)
  refine ⟨h.blk.far (p := ⟨mb, i, none⟩) hne _, ?_, by simpa using h.ml, Own.setCell (p := ⟨mb, i, none⟩) h.own h.ne _, h.ne, h.tB, h.mB, h.vB⟩
  have := h.mkb.set_ i (.int .i64 now)
  simpa [List.map_set, iV] using this
theorem Th.push {w w' : World} {B t mb n i g o c : Nat} {v : Value} {mk : List Int} {now : Int} {l : List Nat} {ob : Obj} (h : Th w B t mb v n mk now l) (hg : (w.alloc ob).grownBy w' v.ownBlock) (hO : Own w' 3 1 (.slice (some ⟨g, o, none⟩) (l.length + 1) c) (l.length + 1) ((l.map fun (i : Nat) => Value.int .i64 (i : Int)) ++ [.int .i64 (i : Int)])) (hat : v.ownBlock = some g ∨ g = w.heap.size + 1) :
    Blk w' t 86 #[v, .slice (some ⟨mb, 0, none⟩) n n, .int .i64 now] ∧ Th (w'.setCell ⟨t, 0, none⟩ (.slice (some ⟨g, o, none⟩) (l.length + 1) c)) B t mb (.slice (some ⟨g, o, none⟩) (l.length + 1) c) n mk now (l ++ [i]) ∧ TW w (w'.setCell ⟨t, 0, none⟩ (.slice (some ⟨g, o, none⟩) (l.length + 1) c)) t mb v (.slice (some ⟨g, o, none⟩) (l.length + 1) c) := by
  have hbt : Blk w' t 86 #[v, .slice (some ⟨mb, 0, none⟩) n n, .int .i64 now] := (h.blk.alloc ob).grown hg (fun e => own_blk_ne h.own h.blk (by decide) e.symm)
  have hbm : Blk w' mb 3 (mk.map iV).toArray := (h.mkb.alloc ob).grown hg (fun e => h.ne e.symm)
  have htm : mb ≠ t := fun e => h.blk.ne_ h.mkb (by decide) e.symm
  have hgm : g ≠ mb := by
    rintro rfl
    rcases hat with h1 | h1
    · exact h.ne h1
    · have := h.mkb.lt; omega
  have htB := h.tB
  have htl := h.blk.lt
  refine ⟨hbt, ⟨hbt.set_ 0 _, hbm.far (p := ⟨t, 0, none⟩) htm _, h.ml, ?_, by simpa [Value.ownBlock] using hgm, h.tB, h.mB, zs_far h.vB hat (by omega)⟩, ?_, ?_⟩
  · rw [List.length_append, List.map_append]
    exact Own.setCell (p := ⟨t, 0, none⟩) hO (own_blk_ne hO hbt (by decide)) _
  · refine Only.setCell (p := ⟨t, 0, none⟩) ?_ (fun _ => .inl rfl) _
    exact ((Only.refl (TS t mb v) w).alloc ob).grown hg fun k hk _ => .inr (.inr hk)
  · intro q hq
    have e2 : g = q := by simpa [Value.ownBlock] using hq
    subst e2
    rcases hat with h1 | h1
    · exact .inl h1
    · exact .inr (by omega)
end Go.Proofs.Ytjfkppbfckgckaa
namespace Go.Proofs.Ytjfkppbfckgckaa
open Go.RowKit Go.Rb
attribute [local irreducible] Go.wpQuiet
set_option maxRecDepth 20000

/-- What a put answers. -/
def RetPut (p : List Ins) (m k : Nat) (w : World) (B t mb : Nat) (v : Value) (n : Nat) (mk : List Int) (now : Int) (l : List Nat) (i : Nat) (e : Ending) (w' : World) : Prop :=
  e = .returned (.tuple #[]) ∧ ∃ v' mk' l', Th w' B t mb v' n mk' now l' ∧ PutR p m k (Mrk mk now) l i (Mrk mk' now) l' ∧ TW w w' t mb v v' ∧ l'.length + cnt mk' now ≤ l.length + cnt mk now ∧ cnt mk' now ≤ cnt mk now ∧ ∀ x ∈ mk', x = now ∨ x ∈ mk
set_option maxHeartbeats 4000000 in
theorem put_step {p : List Ins} {n m k : Nat} (hn : p.length = n) (hn2 : n ≤ 2000) (hok : RightI p) {text : ByteArray} {at_ : Nat} (h0 : at_ = 0 ↔ k = 0) (hm : at_ = text.size ↔ k = m) (ha : at_ ≤ 1000) (ht : text.size ≤ 1000) {A : Option Addr} {cp : Nat} (hcp : n ≤ cp) (B c t mb : Nat) (now : Int) (pa pb : Value) (u : Nat)
    (IH : ∀ (w : World) (v : Value) (mk : List Int) (l : List Nat) (i : Nat), cnt mk now < u → l.length + cnt mk now ≤ n → i < n → Th w B t mb v n mk now l → Blk w c 88 #[.slice A n cp, .string text, pa, pb] → PRd w B A p →
      Calls Try.prog 43 #[.pointer (some ⟨c, 0, none⟩), .pointer (some ⟨t, 0, none⟩), .int .i64 (i : Int), .int .i64 (at_ : Int)] w (RetPut p m k w B t mb v n mk now l i))
    (w : World) (v : Value) (mk : List Int) (l : List Nat) (i : Nat) (hu : cnt mk now ≤ u) (hlc : l.length + cnt mk now ≤ n) (hi : i < n) (hT : Th w B t mb v n mk now l) (hC : Blk w c 88 #[.slice A n cp, .string text, pa, pb]) (hP : PRd w B A p) :
    Calls Try.prog 43 #[.pointer (some ⟨c, 0, none⟩), .pointer (some ⟨t, 0, none⟩), .int .i64 (i : Int), .int .i64 (at_ : Int)] w (RetPut p m k w B t mb v n mk now l i) := by
  obtain ⟨i0, hi0, hz0, hz1, hz2⟩ := info_parts info3
  have hil : i < mk.length := by rw [hT.ml]; exact hi
  obtain ⟨x, hx⟩ : ∃ x, mk[i]? = some x := ⟨_, List.getElem?_eq_getElem hil⟩
  have y0 := hT.blk.cell 0
  have y1 := hT.blk.cell 1
  have y2 := hT.blk.cell 2
  simp only [List.getElem?_toArray, List.getElem?_cons_succ, List.getElem?_cons_zero] at y0 y1 y2
  have q0 : w.cell? ⟨mb, i, none⟩ = some (.int .i64 x) := by
    rw [hT.mkb.cell i]
    simp [hx, iV]
  have fq := hT.mkb.frozen i
  have htl := hT.blk.lt
  have hml := hT.mkb.lt
  have hnt : t ≠ mb := hT.blk.ne_ hT.mkb (by decide)
  have HT := Lib.hid hT
  have HX := Lib.hid hx
  have HIH := Lib.hid IH
  have HC := Lib.hid hC
  have HP := Lib.hid hP
  have HOK := Lib.hid hok
  have HN := Lib.hid hn
  have H0 := Lib.hid h0
  have HM := Lib.hid hm
  have HLC := Lib.hid hlc
  have HU := Lib.hid hu
  clear hT hx IH hC hP hok hn h0 hm hlc hu hil
  by_cases hxn : x = now
  · subst hxn
    go_enter Try.func43, Try.ntmps43
    go_upto_region 0 with fail
    go_region
    go_wp2_with fail
    go_returns
    have hbd : Below w.heap.size w w.drew := (Below.refl _ _).drew
    exact ⟨rfl, v, mk, l, HT.out.under hbd, PutR.old HX.out, TW.of_below hbd, Nat.le_refl _, Nat.le_refl _, fun x hx => .inr hx⟩
  · have hxb : (x == now) = false := by simpa using hxn
    go_enter Try.func43, Try.ntmps43
    go_upto_region 0 with fail
    go_region
    have y1' : w.drew.cell? ⟨t, 1, none⟩ = some (.slice (some ⟨mb, 0, none⟩) n n) := y1
    have y2' : w.drew.cell? ⟨t, 2, none⟩ = some (.int .i64 now) := y2
    have q0' : w.drew.cell? ⟨mb, i, none⟩ = some (.int .i64 x) := q0
    have fq' : w.drew.frozen? ⟨mb, i, none⟩ = false := fq
    go_upto_region 1 with fail
    go_region
    go_upto_region 2 with fail
    have hTm := (HT.out.mark (i := i)).under (Below.refl _ _).drew
    have hTm2 := hTm.under (Below.refl _ _).drew
    have htw : TW w (w.setCell ⟨mb, i, none⟩ (.int .i64 now)).drew.drew t mb v v := ⟨(((Only.refl (TS t mb v) w).setCell (p := ⟨mb, i, none⟩) (fun _ => .inr (.inl rfl)) _).drew).drew, fun _ h => .inl h⟩
    generalize (w.setCell ⟨mb, i, none⟩ (.int .i64 now)).drew.drew = w2 at hTm2 htw ⊢
    have hC2 := htw.blk HT.out HC.out (by decide) (by decide)
    have hP2 := HP.out.below (htw.below HT.out)
    obtain ⟨pt, hpi⟩ : ∃ pt, p[i]? = some pt := ⟨_, List.getElem?_eq_getElem (by rw [HN.out]; exact hi)⟩
    have hoki := HOK.out i pt hpi
    rw [HN.out] at hoki
    obtain ⟨b, off, rfl, hb, hcell⟩ := hP2 (fun e => by rw [e] at hpi; simp at hpi)
    obtain ⟨A1, c1, -, -, d0, d1, d2, d3⟩ := hcell i pt hpi
    obtain ⟨top, tset, tx, ty⟩ := pt
    simp only at d0 d1 d2 d3 hoki
    have x0 := hC2.cell 0
    have hcl := hC2.lt
    have hbl : b < w2.heap.size := Nat.lt_of_lt_of_le (Nat.lt_of_lt_of_le hb hTm2.tB) (Nat.le_of_lt hTm2.blk.lt)
    simp only [List.getElem?_toArray, List.getElem?_cons_zero] at x0
    clear y0 y1 y2 q0 fq y1' y2' q0' fq' htl hml hnt hTm hxb hcell
    go_upto_region 3 with fail
    have hba : Below w2.heap.size w2 (w2.alloc (.cells #[.int .i64 top, .slice A1 tset.length c1, .int .i64 tx, .int .i64 ty] 48)) := below_al (Below.refl _ _) _
    have hxb := Blk.new w2 48 #[.int .i64 top, .slice A1 tset.length c1, .int .i64 tx, .int .i64 ty]
    generalize w2.alloc (.cells #[.int .i64 top, .slice A1 tset.length c1, .int .i64 tx, .int .i64 ty] 48) = w3 at hba hxb ⊢
    have HT3 := Lib.hid (hTm2.under hba)
    have HC3 := Lib.hid (hC2.below hba hC2.lt)
    have HP3 := Lib.hid (hP2.below (hba.mono (Nat.le_trans hTm2.tB (Nat.le_of_lt hTm2.blk.lt))))
    have HTW := Lib.hid (htw.trans (TW.of_below hba))
    have HXB := Lib.hid hxb
    obtain ⟨xb, hxbe⟩ : ∃ xb, w2.heap.size = xb := ⟨_, rfl⟩
    rw [hxbe] at HXB hxb ⊢
    have j0 := hxb.cell 0
    have j2 := hxb.cell 2
    have j3 := hxb.cell 3
    have hxl := hxb.lt
    have g1 := HC3.out.cell 1
    have hcl3 := HC3.out.lt
    simp only [List.getElem?_toArray, List.getElem?_cons_succ, List.getElem?_cons_zero] at j0 j2 j3 g1
    have HPI := Lib.hid hpi
    have HOKI := Lib.hid hoki
    have HCS := Lib.hid (cnt_set HX.out hxn)
    have HNM : Hid (¬ Mrk mk now i) := fun h => hxn (Option.some.inj (HX.out.symm.trans h))
    clear hba hxb hTm2 htw hC2 hP2 d0 d1 d2 d3 x0 hcl hbl hpi hb hxbe
    by_cases o2 : top = 2
    · subst o2
      have HS : Hid (¬ stays p i) := fun ⟨t', ht', a2, a3, a4⟩ => by
        rw [HPI.out] at ht'
        obtain rfl := Option.some.inj ht'
        exact a2 rfl
      have HX1 := HOKI.out.2.2.1 (by decide)
      have HY1 := HOKI.out.2.2.2 rfl
      obtain ⟨X, hX⟩ : ∃ X : Nat, tx = (X : Int) := ⟨tx.toNat, by omega⟩
      obtain ⟨Y, hY⟩ : ∃ Y : Nat, ty = (Y : Int) := ⟨ty.toNat, by omega⟩
      subst hX hY
      have HEP : Hid (eps p m k i = [X, Y]) := by
        show _ = _
        unfold eps
        rw [HPI.out]
        simp
      have hYn : Y < n := by omega
      have HCALL := Lib.hid (HIH.out w3 v (mk.set i now) l X (by have := HCS.out; have := HU.out; omega) (by have := HCS.out; have := HLC.out; omega) (by omega) HT3.out HC3.out HP3.out)
      go_wp2_with fail
      refine HCALL.out.mono ?_
      rintro e1 w4 ⟨rfl, v1, mk1, l1, hT4, hR4, hW4, hl4, hc4, hm4⟩
      have hxb4 := hW4.blk HT3.out HXB.out (by decide) (by decide)
      have r3 := hxb4.cell 3
      have hxl4 := hxb4.lt
      simp only [List.getElem?_toArray, List.getElem?_cons_succ, List.getElem?_cons_zero] at r3
      have HCALL2 := Lib.hid (HIH.out w4 v1 mk1 l1 Y (by have := HCS.out; have := HU.out; omega) (by have := HCS.out; have := HLC.out; omega) hYn hT4 (hW4.blk HT3.out HC3.out (by decide) (by decide)) (HP3.out.below (hW4.below HT3.out)))
      rw [Mrk_set HX.out] at hR4
      have HR4 := Lib.hid hR4
      have HW4 := Lib.hid hW4
      have HL4 := Lib.hid hl4
      have HC4 := Lib.hid hc4
      have HM4 := Lib.hid hm4
      clear hT4 hR4 hW4 hl4 hc4 hm4 hxb4 HCALL
      go_wp2_with fail
      refine HCALL2.out.mono ?_
      rintro e2 w5 ⟨rfl, v2, mk2, l2, hT5, hR5, hW5, hl5, hc5, hm5⟩
      have HF : Hid (RetPut p m k w B t mb v n mk now l i (.returned (.tuple #[])) w5) := by
        refine ⟨rfl, v2, mk2, l2, hT5, PutR.two HNM.out HS.out HEP.out HR4.out hR5, HTW.out.trans (HW4.out.trans hW5), by have := HCS.out; have := HL4.out; omega, by have := HCS.out; have := HC4.out; omega, fun y hy => ?_⟩
        rcases hm5 y hy with h | h
        · exact .inl h
        · rcases HM4.out y h with h | h
          · exact .inl h
          · exact (List.mem_or_eq_of_mem_set h).symm
      clear hT5 hR5 hW5 hl5 hc5 hm5 r3
      go_wp2_with fail
      go_end0
      exact HF.out
    have O2 : (top == 2) = false := by simpa using o2
    by_cases o3 : top = 3
    · subst o3
      have HS : Hid (¬ stays p i) := fun ⟨t', ht', a2, a3, a4⟩ => by
        rw [HPI.out] at ht'
        obtain rfl := Option.some.inj ht'
        exact a3 rfl
      by_cases hz : at_ = 0
      · subst hz
        have hk0 := H0.out.1 rfl
        have HX1 := HOKI.out.2.2.1 (by decide)
        obtain ⟨X, hX⟩ : ∃ X : Nat, tx = (X : Int) := ⟨tx.toNat, by omega⟩
        subst hX
        have HEP : Hid (eps p m k i = [X]) := by
          show _ = _
          unfold eps
          rw [HPI.out]
          simp [hk0]
        have HCALL := Lib.hid (HIH.out w3 v (mk.set i now) l X (by have := HCS.out; have := HU.out; omega) (by have := HCS.out; have := HLC.out; omega) (by have := HN.out; omega) HT3.out HC3.out HP3.out)
        go_wp2_with fail
        refine HCALL.out.mono ?_
        rintro e1 w4 ⟨rfl, v1, mk1, l1, hT4, hR4, hW4, hl4, hc4, hm4⟩
        have HF : Hid (RetPut p m k w B t mb v n mk now l i (.returned (.tuple #[])) w4) := by
          rw [Mrk_set HX.out] at hR4
          exact ⟨rfl, v1, mk1, l1, hT4, PutR.one HNM.out HS.out HEP.out hR4, HTW.out.trans hW4, by have := HCS.out; omega, by have := HCS.out; omega, fun y hy => (hm4 y hy).elim .inl fun h => (List.mem_or_eq_of_mem_set h).symm⟩
        clear hT4 hR4 hW4 hl4 hc4 hm4
        go_wp2_with fail
        go_end0
        exact HF.out
      · have hk0 : ¬ k = 0 := fun e => hz (H0.out.2 e)
        have hzb : ((at_ : Int) == 0) = false := by simp; omega
        have HEP : Hid (eps p m k i = []) := by
          show _ = _
          unfold eps
          rw [HPI.out]
          simp [hk0]
        have HF : Hid (RetPut p m k w B t mb v n mk now l i (.returned (.tuple #[])) w3) := by
          refine ⟨rfl, v, mk.set i now, l, HT3.out, ?_, HTW.out, by have := HCS.out; omega, by have := HCS.out; omega, fun y hy => (List.mem_or_eq_of_mem_set hy).symm⟩
          rw [Mrk_set HX.out]
          exact PutR.stop HNM.out HS.out HEP.out
        go_wp2_with fail
        go_end0
        exact HF.out
    have O3 : (top == 3) = false := by simpa using o3
    by_cases o4 : top = 4
    · subst o4
      have HS : Hid (¬ stays p i) := fun ⟨t', ht', a2, a3, a4⟩ => by
        rw [HPI.out] at ht'
        obtain rfl := Option.some.inj ht'
        exact a4 rfl
      by_cases hz : at_ = text.size
      · have hkm := HM.out.1 hz
        have hzb : ((at_ : Int) == (text.size : Int)) = true := by simp; omega
        clear hz
        have HX1 := HOKI.out.2.2.1 (by decide)
        obtain ⟨X, hX⟩ : ∃ X : Nat, tx = (X : Int) := ⟨tx.toNat, by omega⟩
        subst hX
        have HEP : Hid (eps p m k i = [X]) := by
          show _ = _
          unfold eps
          rw [HPI.out]
          simp [hkm]
        have HCALL := Lib.hid (HIH.out w3 v (mk.set i now) l X (by have := HCS.out; have := HU.out; omega) (by have := HCS.out; have := HLC.out; omega) (by have := HN.out; omega) HT3.out HC3.out HP3.out)
        go_wp2_with fail
        refine HCALL.out.mono ?_
        rintro e1 w4 ⟨rfl, v1, mk1, l1, hT4, hR4, hW4, hl4, hc4, hm4⟩
        have HF : Hid (RetPut p m k w B t mb v n mk now l i (.returned (.tuple #[])) w4) := by
          rw [Mrk_set HX.out] at hR4
          exact ⟨rfl, v1, mk1, l1, hT4, PutR.one HNM.out HS.out HEP.out hR4, HTW.out.trans hW4, by have := HCS.out; omega, by have := HCS.out; omega, fun y hy => (hm4 y hy).elim .inl fun h => (List.mem_or_eq_of_mem_set h).symm⟩
        clear hT4 hR4 hW4 hl4 hc4 hm4
        go_wp2_with fail
        go_end0
        exact HF.out
      · have hkm : ¬ k = m := fun e => hz (HM.out.2 e)
        have hzb : ((at_ : Int) == (text.size : Int)) = false := by simp; omega
        have HEP : Hid (eps p m k i = []) := by
          show _ = _
          unfold eps
          rw [HPI.out]
          simp [hkm]
        have HF : Hid (RetPut p m k w B t mb v n mk now l i (.returned (.tuple #[])) w3) := by
          refine ⟨rfl, v, mk.set i now, l, HT3.out, ?_, HTW.out, by have := HCS.out; omega, by have := HCS.out; omega, fun y hy => (List.mem_or_eq_of_mem_set hy).symm⟩
          rw [Mrk_set HX.out]
          exact PutR.stop HNM.out HS.out HEP.out
        go_wp2_with fail
        go_end0
        exact HF.out
    have O4 : (top == 4) = false := by simpa using o4
    have HS : Hid (stays p i) := ⟨_, HPI.out, o2, o3, o4⟩
    obtain ⟨Av, cv, rfl, -, -⟩ := HT3.out.own.len_
    have s0 := HT3.out.blk.cell 0
    have htl3 := HT3.out.blk.lt
    simp only [List.getElem?_toArray, List.getElem?_cons_zero] at s0
    have hl2000 : l.length ≤ 2000 := by have := HLC.out; omega
    go_wp2_with (at_builtin; refine wpList_append_mine _ rfl (.tmp 44) (.tmp 46) _ rfl 3 i0 _ 1 8 Try.underlying38 hi0 hz0 hz1 hz2 rfl (by omega) (.slice Av l.length cv) l.length (l.map fun (i : Nat) => Value.int .i64 (i : Int)) rfl (by exact HT3.out.own.alloc _) _ 1 1 [_] rfl rfl (by exact news_push rfl rfl) (by simp [Value.oneCell']) (by omega) (by simp only [maxLen]; omega) (by omega) _ rfl ?_; intro g5 o5 c5 w5 hown5 hgrow5 hat5; have hpp := Th.push (i := i) (g := g5) (o := o5) (c := c5) HT3.out hgrow5 hown5 (by simpa using hat5); have HPP := Lib.hid hpp.2; have hbt5 := hpp.1; have u0 := hbt5.cell 0; have f0 := hbt5.frozen 0; have hl5 := hbt5.lt; simp only [List.getElem?_toArray, List.getElem?_cons_zero] at u0; clear hown5 hgrow5 hat5 hpp hbt5)
    go_end0
    refine ⟨rfl, _, mk.set i now, l ++ [i], HPP.out.1, ?_, HTW.out.trans HPP.out.2, by have := HCS.out; simp; omega, by have := HCS.out; omega, fun y hy => (List.mem_or_eq_of_mem_set hy).symm⟩
    rw [Mrk_set HX.out]
    exact PutR.leaf HNM.out HS.out
/-- put, whatever is marked. -/
theorem cput_any {p : List Ins} {n m k : Nat} (hn : p.length = n) (hn2 : n ≤ 2000) (hok : RightI p) {text : ByteArray} {at_ : Nat} (h0 : at_ = 0 ↔ k = 0) (hm : at_ = text.size ↔ k = m) (ha : at_ ≤ 1000) (ht : text.size ≤ 1000) {A : Option Addr} {cp : Nat} (hcp : n ≤ cp) (B c t mb : Nat) (now : Int) (pa pb : Value) : ∀ (u : Nat) (w : World) (v : Value) (mk : List Int) (l : List Nat) (i : Nat),
    cnt mk now ≤ u → l.length + cnt mk now ≤ n → i < n → Th w B t mb v n mk now l → Blk w c 88 #[.slice A n cp, .string text, pa, pb] → PRd w B A p →
    Calls Try.prog 43 #[.pointer (some ⟨c, 0, none⟩), .pointer (some ⟨t, 0, none⟩), .int .i64 (i : Int), .int .i64 (at_ : Int)] w (RetPut p m k w B t mb v n mk now l i) := by
  intro u
  induction u using Nat.strongRecOn with
  | _ u ih =>
    intro w v mk l i hu hlc hi hT hC hP
    exact put_step hn hn2 hok h0 hm ha ht hcp B c t mb now pa pb u (fun w v mk l i h1 h2 h3 h4 h5 h6 => ih (cnt mk now) h1 w v mk l i (Nat.le_refl _) h2 h3 h4 h5 h6) w v mk l i hu hlc hi hT hC hP
end Go.Proofs.Ytjfkppbfckgckaa
namespace Go.Proofs.Ytjfkppbfckgckaa
open Go.RowKit Go.Rb
attribute [local irreducible] Go.wpQuiet
set_option maxRecDepth 20000

theorem own_cut {w : World} {v : Value} {n : Nat} {xs : List Value} (h : Own w 3 1 v n xs) : ∃ A c A' c', v = .slice A n c ∧ (∀ W, (Instr.slice 38 (.slice A n c) none (some (.int .i64 0)) none).run Try.prog W = .ok (.slice A' 0 c') W) ∧
    Own w 3 1 (.slice A' 0 c') 0 [] ∧ ∀ k, (Value.slice A' 0 c').ownBlock = some k → v.ownBlock = some k := by
  have hs : ∀ W, (sizeOf (Try.prog.elem 38)).run Try.prog W = .ok 1 W := fun W => by kernel_rfl
  have hrun : ∀ (A : Option Addr) (c : Nat) W, (Instr.slice 38 (.slice A n c) none (some (.int .i64 0)) none).run Try.prog W = .ok (sliced A 0 0 c 1) W := fun A c W => by
    rw [run_slice_h (P := Try.prog) W 38 A n c Try.underlying38 .i64 0 (by omega) (by omega), hs W]
    simp [Result.andThen]
  rcases h.2 with ⟨rfl, rfl⟩ | ⟨g, off, cap, cur, rfl, hg, hnc, hcm, hsz, hx⟩
  · exact ⟨none, 0, none, 0, rfl, fun W => by rw [hrun]; simp [sliced], Own.nil_ _ _ _, by simp [Value.ownBlock]⟩
  · refine ⟨_, _, some ⟨g, off, none⟩, cap, rfl, fun W => ?_, ⟨by simp, .inr ⟨g, off, cap, cur, rfl, hg, Nat.zero_le _, hcm, hsz, by simp⟩⟩, fun k hk => hk⟩
    rw [hrun]
    simp [sliced, Rb.add_plain]
set_option maxHeartbeats 1000000 in
theorem clear_any {w : World} {B t mb n : Nat} {v : Value} {mk : List Int} {now : Int} {l : List Nat} (hT : Th w B t mb v n mk now l) (h0 : 0 ≤ now) (h1 : now ≤ 1000000000) :
    Calls Try.prog 42 #[.pointer (some ⟨t, 0, none⟩)] w fun e w' => e = .returned (.tuple #[]) ∧ ∃ v', Th w' B t mb v' n mk (now + 1) [] ∧ TW w w' t mb v v' := by
  obtain ⟨A, c, A', c', rfl, hsl, hO, hob⟩ := own_cut hT.own
  have y0 := hT.blk.cell 0
  have y2 := hT.blk.cell 2
  have z0 := hT.blk.frozen 0
  have z2 := hT.blk.frozen 2
  have htl := hT.blk.lt
  simp only [List.getElem?_toArray, List.getElem?_cons_succ, List.getElem?_cons_zero] at y0 y2
  have htm : mb ≠ t := fun e => hT.blk.ne_ hT.mkb (by decide) e.symm
  have hT2 : Th ((w.setCell ⟨t, 0, none⟩ (.slice A' 0 c')).setCell ⟨t, 2, none⟩ (.int .i64 (now + 1))) B t mb (.slice A' 0 c') n mk (now + 1) [] := by
    refine ⟨(hT.blk.set_ 0 _).set_ 2 _, (hT.mkb.far (p := ⟨t, 0, none⟩) htm _).far (p := ⟨t, 2, none⟩) htm _, hT.ml, ?_, fun e => hT.ne (hob _ e), hT.tB, hT.mB, fun k hk => hT.vB k (hob k hk)⟩
    have ht : (Value.slice A' 0 c').ownBlock ≠ some t := own_blk_ne hO hT.blk (by decide)
    exact Own.setCell (p := ⟨t, 2, none⟩) (Own.setCell (p := ⟨t, 0, none⟩) hO ht _) ht _
  have htw : TW w ((w.setCell ⟨t, 0, none⟩ (.slice A' 0 c')).setCell ⟨t, 2, none⟩ (.int .i64 (now + 1))) t mb (.slice A l.length c) (.slice A' 0 c') :=
    ⟨((Only.refl (TS t mb (.slice A l.length c)) w).setCell (p := ⟨t, 0, none⟩) (fun _ => .inl rfl) _).setCell (p := ⟨t, 2, none⟩) (fun _ => .inl rfl) _, fun q hq => .inl (hob q hq)⟩
  have HT2 := Lib.hid hT2
  have HTW := Lib.hid htw
  clear hT hO hob hT2 htw
  go_enter Try.func42, Try.ntmps42
  go_wp2_with fail
  go_end0
  exact ⟨rfl, _, HT2.out, HTW.out⟩
/-- A crew, its threads' lists set apart. -/
structure Crew (w : World) (B c ta ma tb mb : Nat) (va vb : Value) (A : Option Addr) (cp : Nat) (text : ByteArray) (n : Nat) (mka : List Int) (nowa : Int) (la : List Nat) (mkb : List Int) (nowb : Int) (lb : List Nat) : Prop where
  cb : Blk w c 88 #[.slice A n cp, .string text, .pointer (some ⟨ta, 0, none⟩), .pointer (some ⟨tb, 0, none⟩)]
  a : Th w B ta ma va n mka nowa la
  b : Th w B tb mb vb n mkb nowb lb
  cB : B ≤ c
  tn : ta ≠ tb
  mn : ma ≠ mb
  an : va.ownBlock ≠ some mb
  bn : vb.ownBlock ≠ some ma
  vn : ∀ k, va.ownBlock = some k → vb.ownBlock ≠ some k
theorem Th.apart {w w' : World} {B t m t' m' n n' : Nat} {v v' u : Value} {mk mk' : List Int} {now now' : Int} {l l' : List Nat} (h : Th w B t m v n mk now l) (h' : Th w B t' m' v' n' mk' now' l') (hw : TW w w' t m v u) (tn : t' ≠ t) (mn : m' ≠ m) (an : v'.ownBlock ≠ some m) (bn : v.ownBlock ≠ some m') (vn : ∀ k, v'.ownBlock = some k → v.ownBlock ≠ some k) : Th w' B t' m' v' n' mk' now' l' := by
  refine ⟨h'.blk.only hw.1 ?_, h'.mkb.only hw.1 ?_, h'.ml, Own.only h'.own hw.1 ?_, h'.ne, h'.tB, h'.mB, h'.vB⟩
  · rintro (rfl | rfl | e)
    · exact tn rfl
    · exact h'.blk.ne_ h.mkb (by decide) rfl
    · exact own_blk_ne h.own h'.blk (by decide) e
  · rintro (rfl | rfl | e)
    · exact h'.mkb.ne_ h.blk (by decide) rfl
    · exact mn rfl
    · exact bn e
  · rintro k hk (rfl | rfl | e)
    · exact own_blk_ne h'.own h.blk (by decide) hk
    · exact an hk
    · exact vn k hk e
/-- The first list was changed. -/
theorem Crew.onA {w w' : World} {B c ta ma tb mb : Nat} {va vb va' : Value} {A : Option Addr} {cp : Nat} {text : ByteArray} {n : Nat} {mka mkb mka' : List Int} {nowa nowb nowa' : Int} {la lb la' : List Nat} (h : Crew w B c ta ma tb mb va vb A cp text n mka nowa la mkb nowb lb) (hT : Th w' B ta ma va' n mka' nowa' la') (hw : TW w w' ta ma va va') :
    Crew w' B c ta ma tb mb va' vb A cp text n mka' nowa' la' mkb nowb lb := by
  refine ⟨hw.blk h.a h.cb (by decide) (by decide), hT, h.a.apart h.b hw h.tn.symm h.mn.symm h.bn h.an (fun k h1 h2 => h.vn k h2 h1), h.cB, h.tn, h.mn, ?_, h.bn, ?_⟩
  · intro e
    rcases hw.2 _ e with h1 | h1
    · exact h.an h1
    · have := h.b.mkb.lt; omega
  · intro k hk e
    rcases hw.2 _ hk with h1 | h1
    · exact h.vn k h1 e
    · have := Own.lt h.b.own e; omega
/-- The second list was changed. -/
theorem Crew.onB {w w' : World} {B c ta ma tb mb : Nat} {va vb vb' : Value} {A : Option Addr} {cp : Nat} {text : ByteArray} {n : Nat} {mka mkb mkb' : List Int} {nowa nowb nowb' : Int} {la lb lb' : List Nat} (h : Crew w B c ta ma tb mb va vb A cp text n mka nowa la mkb nowb lb) (hT : Th w' B tb mb vb' n mkb' nowb' lb') (hw : TW w w' tb mb vb vb') :
    Crew w' B c ta ma tb mb va vb' A cp text n mka nowa la mkb' nowb' lb' := by
  refine ⟨hw.blk h.b h.cb (by decide) (by decide), h.b.apart h.a hw h.tn h.mn h.an h.bn h.vn, hT, h.cB, h.tn, h.mn, h.an, ?_, ?_⟩
  · intro e
    rcases hw.2 _ e with h1 | h1
    · exact h.bn h1
    · have := h.a.mkb.lt; omega
  · intro k hk e
    rcases hw.2 _ e with h1 | h1
    · exact h.vn k hk h1
    · have := Own.lt h.a.own hk; omega
theorem Crew.under {w w' : World} {B c ta ma tb mb : Nat} {va vb : Value} {A : Option Addr} {cp : Nat} {text : ByteArray} {n : Nat} {mka mkb : List Int} {nowa nowb : Int} {la lb : List Nat} (h : Crew w B c ta ma tb mb va vb A cp text n mka nowa la mkb nowb lb) (hb : Below w.heap.size w w') : Crew w' B c ta ma tb mb va vb A cp text n mka nowa la mkb nowb lb :=
  ⟨h.cb.below hb h.cb.lt, h.a.under hb, h.b.under hb, h.cB, h.tn, h.mn, h.an, h.bn, h.vn⟩
/-- What a crew may change. -/
def CS (c ta ma tb mb : Nat) (va vb : Value) : Nat → Prop := fun q => q = c ∨ TS ta ma va q ∨ TS tb mb vb q
end Go.Proofs.Ytjfkppbfckgckaa
namespace Go.Proofs.Ytjfkppbfckgckaa
open Go.RowKit Go.Rb
attribute [local irreducible] Go.wpQuiet
set_option maxRecDepth 20000

theorem alloc5 (w : World) (o0 o1 o2 o3 o4 : Obj) : (((((w.alloc o0).alloc o1).alloc o2).alloc o3).alloc o4).drew.heap[w.heap.size]? = some o0 ∧ (((((w.alloc o0).alloc o1).alloc o2).alloc o3).alloc o4).drew.heap[w.heap.size + 1]? = some o1 ∧ (((((w.alloc o0).alloc o1).alloc o2).alloc o3).alloc o4).drew.heap[w.heap.size + 1 + 1]? = some o2 ∧
    (((((w.alloc o0).alloc o1).alloc o2).alloc o3).alloc o4).drew.heap[w.heap.size + 1 + 1 + 1]? = some o3 ∧ (((((w.alloc o0).alloc o1).alloc o2).alloc o3).alloc o4).drew.heap[w.heap.size + 1 + 1 + 1 + 1]? = some o4 ∧ Below w.heap.size w (((((w.alloc o0).alloc o1).alloc o2).alloc o3).alloc o4).drew := by
  have s1 : (w.alloc o0).heap.size = w.heap.size + 1 := by simp
  have s2 : ((w.alloc o0).alloc o1).heap.size = w.heap.size + 1 + 1 := by simp
  have s3 : (((w.alloc o0).alloc o1).alloc o2).heap.size = w.heap.size + 1 + 1 + 1 := by simp
  have s4 : ((((w.alloc o0).alloc o1).alloc o2).alloc o3).heap.size = w.heap.size + 1 + 1 + 1 + 1 := by simp
  have h0 := heap_alloc_new w o0
  have h1 := heap_alloc_new (w.alloc o0) o1
  have h2 := heap_alloc_new ((w.alloc o0).alloc o1) o2
  have h3 := heap_alloc_new (((w.alloc o0).alloc o1).alloc o2) o3
  have h4 := heap_alloc_new ((((w.alloc o0).alloc o1).alloc o2).alloc o3) o4
  rw [s1] at h1
  rw [s2] at h2
  rw [s3] at h3
  rw [s4] at h4
  have up : ∀ (W : World) (o : Obj) (k : Nat) (q : Obj), W.heap[k]? = some q → (W.alloc o).heap[k]? = some q := fun W o k q h => (heap_alloc_old W o (Array.getElem?_eq_some_iff.1 h).1).trans h
  exact ⟨up _ _ _ _ (up _ _ _ _ (up _ _ _ _ (up _ _ _ _ h0))), up _ _ _ _ (up _ _ _ _ (up _ _ _ _ h1)), up _ _ _ _ (up _ _ _ _ h2), up _ _ _ _ h3, h4, ((((below_al (Below.refl _ _) _).alloc (by omega) _).alloc (by omega) _).alloc (by omega) _ |>.alloc (by omega) _).drew⟩
theorem th_new {w W : World} {t mb n : Nat} (hb : Below w.heap.size w W) (ht : W.heap[t]? = some (.cells #[.slice none 0 0, .slice (some ⟨mb, 0, none⟩) n n, .int .i64 0] 86)) (hm : W.heap[mb]? = some (.cells (madeCells #[.int .i64 0] n) 3)) (h1 : w.heap.size ≤ t) (h2 : w.heap.size ≤ mb) : Th W w.heap.size t mb (.slice none 0 0) n (List.replicate n 0) 0 [] := by
  refine ⟨ht, ?_, by simp, Own.nil_ _ _ _, by simp [Value.ownBlock], h1, h2, by simp [Value.ownBlock]⟩
  have e : ((List.replicate n (0 : Int)).map iV).toArray = madeCells #[.int .i64 0] n := by
    apply Array.toList_inj.1
    rw [toList_madeCells_one]
    simp [iV]
  unfold Blk
  rw [e]
  exact hm
theorem crew_new {w W : World} {c ta ma tb mb n cp : Nat} {A : Option Addr} {text : ByteArray} (hb : Below w.heap.size w W) (hc : W.heap[c]? = some (.cells #[.slice A n cp, .string text, .pointer (some ⟨ta, 0, none⟩), .pointer (some ⟨tb, 0, none⟩)] 88))
    (hta : W.heap[ta]? = some (.cells #[.slice none 0 0, .slice (some ⟨ma, 0, none⟩) n n, .int .i64 0] 86)) (hma : W.heap[ma]? = some (.cells (madeCells #[.int .i64 0] n) 3)) (htb : W.heap[tb]? = some (.cells #[.slice none 0 0, .slice (some ⟨mb, 0, none⟩) n n, .int .i64 0] 86)) (hmb : W.heap[mb]? = some (.cells (madeCells #[.int .i64 0] n) 3))
    (h : w.heap.size ≤ c ∧ w.heap.size ≤ ta ∧ w.heap.size ≤ ma ∧ w.heap.size ≤ tb ∧ w.heap.size ≤ mb ∧ ta ≠ tb ∧ ma ≠ mb) : Crew W w.heap.size c ta ma tb mb (.slice none 0 0) (.slice none 0 0) A cp text n (List.replicate n 0) 0 [] (List.replicate n 0) 0 [] :=
  ⟨hc, th_new hb hta hma h.2.1 h.2.2.1, th_new hb htb hmb h.2.2.2.1 h.2.2.2.2.1, h.1, h.2.2.2.2.2.1, h.2.2.2.2.2.2, by simp [Value.ownBlock], by simp [Value.ownBlock], by simp [Value.ownBlock]⟩
set_option maxHeartbeats 4000000 in
theorem begun_any (A : Option Addr) (n cp : Nat) (text : ByteArray) (w : World) (hn : n ≤ 2000) :
    Calls Try.prog 27 #[.slice A n cp, .string text] w fun e w' => ∃ c ta ma tb mb, e = .returned (.pointer (some ⟨c, 0, none⟩)) ∧ Crew w' w.heap.size c ta ma tb mb (.slice none 0 0) (.slice none 0 0) A cp text n (List.replicate n 0) 0 [] (List.replicate n 0) 0 [] ∧ Below w.heap.size w w' := by
  obtain ⟨i0, hi0, hz0, hz1, hz2⟩ := info_parts info3
  have km : ∀ W : World, (Instr.makeSlice 38 (.int .i64 (n : Int)) (.int .i64 (n : Int))).run Try.prog W = .ok (.slice (some ⟨W.heap.size, 0, none⟩) n n) (W.alloc (.cells (madeCells #[.int .i64 0] n) 3)) := by
    intro W
    have := run_make (P := Try.prog) W 38 3 i0 _ Try.underlying38 hi0 hz0 .i64 .i64 n n (by omega) (by omega) (by rw [hz2]; omega) (by omega)
    rw [hz1] at this
    simp only [Int.toNat_natCast, Nat.mul_one] at this
    exact this
  go_enter Try.func27, Try.ntmps27
  go_upto_region 1 with fail
  go_region
  all_goals (go_wp2_with fail; go_ret)
  all_goals first
    | exact ⟨_, w.heap.size + 1, w.heap.size, w.heap.size + 1 + 1 + 1, w.heap.size + 1 + 1, rfl, crew_new (alloc5 w _ _ _ _ _).2.2.2.2.2 (alloc5 w _ _ _ _ _).2.2.2.2.1 (alloc5 w _ _ _ _ _).2.1 (alloc5 w _ _ _ _ _).1 (alloc5 w _ _ _ _ _).2.2.2.1 (alloc5 w _ _ _ _ _).2.2.1 (by omega), (alloc5 w _ _ _ _ _).2.2.2.2.2⟩
    | exact ⟨_, w.heap.size + 1 + 1, w.heap.size, w.heap.size + 1 + 1 + 1, w.heap.size + 1, rfl, crew_new (alloc5 w _ _ _ _ _).2.2.2.2.2 (alloc5 w _ _ _ _ _).2.2.2.2.1 (alloc5 w _ _ _ _ _).2.2.1 (alloc5 w _ _ _ _ _).1 (alloc5 w _ _ _ _ _).2.2.2.1 (alloc5 w _ _ _ _ _).2.1 (by omega), (alloc5 w _ _ _ _ _).2.2.2.2.2⟩
    | exact ⟨_, w.heap.size + 1 + 1 + 1, w.heap.size, w.heap.size + 1 + 1, w.heap.size + 1, rfl, crew_new (alloc5 w _ _ _ _ _).2.2.2.2.2 (alloc5 w _ _ _ _ _).2.2.2.2.1 (alloc5 w _ _ _ _ _).2.2.2.1 (alloc5 w _ _ _ _ _).1 (alloc5 w _ _ _ _ _).2.2.1 (alloc5 w _ _ _ _ _).2.1 (by omega), (alloc5 w _ _ _ _ _).2.2.2.2.2⟩
    | exact ⟨_, w.heap.size + 1 + 1, w.heap.size + 1, w.heap.size + 1 + 1 + 1, w.heap.size, rfl, crew_new (alloc5 w _ _ _ _ _).2.2.2.2.2 (alloc5 w _ _ _ _ _).2.2.2.2.1 (alloc5 w _ _ _ _ _).2.2.1 (alloc5 w _ _ _ _ _).2.1 (alloc5 w _ _ _ _ _).2.2.2.1 (alloc5 w _ _ _ _ _).1 (by omega), (alloc5 w _ _ _ _ _).2.2.2.2.2⟩
    | exact ⟨_, w.heap.size + 1 + 1 + 1, w.heap.size + 1, w.heap.size + 1 + 1, w.heap.size, rfl, crew_new (alloc5 w _ _ _ _ _).2.2.2.2.2 (alloc5 w _ _ _ _ _).2.2.2.2.1 (alloc5 w _ _ _ _ _).2.2.2.1 (alloc5 w _ _ _ _ _).2.1 (alloc5 w _ _ _ _ _).2.2.1 (alloc5 w _ _ _ _ _).1 (by omega), (alloc5 w _ _ _ _ _).2.2.2.2.2⟩
    | exact ⟨_, w.heap.size + 1 + 1 + 1, w.heap.size + 1 + 1, w.heap.size + 1, w.heap.size, rfl, crew_new (alloc5 w _ _ _ _ _).2.2.2.2.2 (alloc5 w _ _ _ _ _).2.2.2.2.1 (alloc5 w _ _ _ _ _).2.2.2.1 (alloc5 w _ _ _ _ _).2.2.1 (alloc5 w _ _ _ _ _).2.1 (alloc5 w _ _ _ _ _).1 (by omega), (alloc5 w _ _ _ _ _).2.2.2.2.2⟩
end Go.Proofs.Ytjfkppbfckgckaa
namespace Go.Proofs.Ytjfkppbfckgckaa
open Go.RowKit Go.Rb
attribute [local irreducible] Go.wpQuiet
set_option maxRecDepth 20000

theorem Crew.cs_lt {w : World} {B c ta ma tb mb : Nat} {va vb : Value} {A : Option Addr} {cp : Nat} {text : ByteArray} {n : Nat} {mka mkb : List Int} {nowa nowb : Int} {la lb : List Nat} (h : Crew w B c ta ma tb mb va vb A cp text n mka nowa la mkb nowb lb) (q : Nat) (hq : CS c ta ma tb mb va vb q) : q < w.heap.size ∧ B ≤ q := by
  rcases hq with rfl | (rfl | rfl | hq) | (rfl | rfl | hq)
  · exact ⟨h.cb.lt, h.cB⟩
  · exact ⟨h.a.blk.lt, h.a.tB⟩
  · exact ⟨h.a.mkb.lt, h.a.mB⟩
  · exact ⟨Own.lt h.a.own hq, h.a.vB q hq⟩
  · exact ⟨h.b.blk.lt, h.b.tB⟩
  · exact ⟨h.b.mkb.lt, h.b.mB⟩
  · exact ⟨Own.lt h.b.own hq, h.b.vB q hq⟩
/-- A crew at rest, its blocks in S; its rounds at most N. -/
def CrewS (w : World) (B c : Nat) (A : Option Addr) (cp : Nat) (text : ByteArray) (n : Nat) (N : Int) (S : Nat → Prop) : Prop :=
  ∃ ta ma tb mb va vb mka nowa la mkb nowb lb, Crew w B c ta ma tb mb va vb A cp text n mka nowa la mkb nowb lb ∧ (∀ x ∈ mka, x ≤ nowa) ∧ (∀ x ∈ mkb, x ≤ nowb) ∧ 0 ≤ nowa ∧ nowa ≤ N ∧ 0 ≤ nowb ∧ nowb ≤ N ∧ ∀ q, S q ↔ CS c ta ma tb mb va vb q
theorem CrewS.lt {w : World} {B c cp n : Nat} {A : Option Addr} {text : ByteArray} {N : Int} {S : Nat → Prop} (h : CrewS w B c A cp text n N S) (q : Nat) (hq : S q) : q < w.heap.size ∧ B ≤ q := by
  obtain ⟨ta, ma, tb, mb, va, vb, mka, nowa, la, mkb, nowb, lb, hc, -, -, -, -, -, -, hS⟩ := h
  exact hc.cs_lt q ((hS q).1 hq)
theorem CrewS.under {w w' : World} {B c cp n : Nat} {A : Option Addr} {text : ByteArray} {N : Int} {S : Nat → Prop} (h : CrewS w B c A cp text n N S) (hb : Below w.heap.size w w') : CrewS w' B c A cp text n N S := by
  obtain ⟨ta, ma, tb, mb, va, vb, mka, nowa, la, mkb, nowb, lb, hc, r⟩ := h
  exact ⟨ta, ma, tb, mb, va, vb, mka, nowa, la, mkb, nowb, lb, hc.under hb, r⟩
theorem CrewS.only {w w' : World} {B c cp n : Nat} {A : Option Addr} {text : ByteArray} {N : Int} {S : Nat → Prop} {ob : Option Nat} (h : CrewS w B c A cp text n N S) (hg : w.grownBy w' ob) (hk : ∀ k, ob = some k → ¬ S k) : CrewS w' B c A cp text n N S := by
  have hlt := h.lt
  obtain ⟨ta, ma, tb, mb, va, vb, mka, nowa, la, mkb, nowb, lb, hc, h1, h2, h3, h4, h5, h6, hS⟩ := h
  have keep : ∀ q, CS c ta ma tb mb va vb q → w'.heap[q]? = w.heap[q]? := fun q hq => hg.block q (hc.cs_lt q hq).1 (fun e => hk q e.symm ((hS q).2 hq))
  refine ⟨ta, ma, tb, mb, va, vb, mka, nowa, la, mkb, nowb, lb, ⟨(keep c (.inl rfl)).trans hc.cb, ⟨(keep ta (.inr (.inl (.inl rfl)))).trans hc.a.blk, (keep ma (.inr (.inl (.inr (.inl rfl))))).trans hc.a.mkb, hc.a.ml, Own.keep hc.a.own (fun k hk => keep k (.inr (.inl (.inr (.inr hk))))), hc.a.ne, hc.a.tB, hc.a.mB, hc.a.vB⟩,
    ⟨(keep tb (.inr (.inr (.inl rfl)))).trans hc.b.blk, (keep mb (.inr (.inr (.inr (.inl rfl))))).trans hc.b.mkb, hc.b.ml, Own.keep hc.b.own (fun k hk => keep k (.inr (.inr (.inr (.inr hk))))), hc.b.ne, hc.b.tB, hc.b.mB, hc.b.vB⟩, hc.cB, hc.tn, hc.mn, hc.an, hc.bn, hc.vn⟩, h1, h2, h3, h4, h5, h6, hS⟩
/-- The first and the second list change places. -/
theorem Crew.swap {w : World} {B c ta ma tb mb : Nat} {va vb : Value} {A : Option Addr} {cp : Nat} {text : ByteArray} {n : Nat} {mka mkb : List Int} {nowa nowb : Int} {la lb : List Nat} (h : Crew w B c ta ma tb mb va vb A cp text n mka nowa la mkb nowb lb) :
    Crew ((w.setCell ⟨c, 2, none⟩ (.pointer (some ⟨tb, 0, none⟩))).setCell ⟨c, 3, none⟩ (.pointer (some ⟨ta, 0, none⟩))) B c tb mb ta ma vb va A cp text n mkb nowb lb mka nowa la := by
  have key : ∀ {t m : Nat} {v : Value} {mk : List Int} {now : Int} {l : List Nat}, Th w B t m v n mk now l → Th ((w.setCell ⟨c, 2, none⟩ (.pointer (some ⟨tb, 0, none⟩))).setCell ⟨c, 3, none⟩ (.pointer (some ⟨ta, 0, none⟩))) B t m v n mk now l := fun hT => by
    have h1 : _ ≠ c := hT.blk.ne_ h.cb (by decide)
    have h2 : _ ≠ c := hT.mkb.ne_ h.cb (by decide)
    exact ⟨(hT.blk.far (p := ⟨c, 2, none⟩) h1 _).far (p := ⟨c, 3, none⟩) h1 _, (hT.mkb.far (p := ⟨c, 2, none⟩) h2 _).far (p := ⟨c, 3, none⟩) h2 _, hT.ml, Own.setCell (p := ⟨c, 3, none⟩) (Own.setCell (p := ⟨c, 2, none⟩) hT.own (own_blk_ne hT.own h.cb (by decide)) _) (own_blk_ne hT.own h.cb (by decide)) _, hT.ne, hT.tB, hT.mB, hT.vB⟩
  exact ⟨(h.cb.set_ 2 _).set_ 3 _, key h.b, key h.a, h.cB, h.tn.symm, h.mn.symm, h.bn, h.an, fun k h1 h2 => h.vn k h2 h1⟩
/-- The value of an end. -/
def endV (s : ByteArray) : Option Nat → Value
  | none => .int .i64 (-1)
  | some k => .int .i64 (AtF (decT s) k : Int)
def isM (p : List Ins) (i : Nat) : Bool := match p[i]? with | some t => decide (t.op = 0) | none => false
theorem isM_iff {p : List Ins} {i : Nat} : isM p i = true ↔ ∃ t, p[i]? = some t ∧ t.op = 0 := by
  unfold isM
  cases p[i]? with
  | none => simp
  | some t => simp
theorem lastTo_list {p : List Ins} {rs : List Int} {k0 k : Nat} {M : Nat → Prop} {r : Option Nat} {L : List Nat} (hM : Exact p rs k0 k M) (hL : Lists p M L) (h : LastTo p rs k0 k r) : LastTo p rs k0 (k + 1) (if L.any (isM p) = true then some k else r) := by
  split
  · rename_i ha
    obtain ⟨i, hi, h1⟩ := List.any_eq_true.1 ha
    obtain ⟨t, ht, h0⟩ := isM_iff.1 h1
    exact lastTo_acc hM ((hL i).1 hi).1 ht h0
  · rename_i ha
    refine lastTo_no hM (fun i t hi ht h0 => ha (List.any_eq_true.2 ⟨i, (hL i).2 ⟨hi, t, ht, by omega, by omega, by omega⟩, isM_iff.2 ⟨t, ht, h0⟩⟩)) h
theorem mrk_none {mk : List Int} {now : Int} (h : ∀ x ∈ mk, x ≤ now) : Mrk mk (now + 1) = fun _ => False := by
  funext j
  unfold Mrk
  apply propext
  constructor
  · intro e
    have := h _ (List.mem_of_getElem? e)
    omega
  · exact False.elim
theorem lists_nil (p : List Ins) : Lists p (fun _ => False) [] := fun j => by simp
/-- What the inner loop has put so far: of j threads. -/
structure Lev (p : List Ins) (rs : List Int) (k0 k : Nat) (la : List Nat) (j : Nat) (M : Nat → Prop) (L : List Nat) : Prop where
  clo : Closed p rs.length (k + 1) M
  snd : ∀ i, M i → Reach p rs k0 i (k + 1)
  seeds : ∀ i ∈ la.take j, ∀ x ∈ nxt p rs k i, M x
  lst : Lists p M L
theorem Lev.start (p : List Ins) (rs : List Int) (k0 k : Nat) (la : List Nat) : Lev p rs k0 k la 0 (fun _ => False) [] := ⟨fun a b h => h.elim, fun i h => h.elim, fun i h => by simp at h, lists_nil p⟩
theorem Lev.skip {p : List Ins} {rs : List Int} {k0 k j i : Nat} {la : List Nat} {M : Nat → Prop} {L : List Nat} (h : Lev p rs k0 k la j M L) (hi : la[j]? = some i) (hn : nxt p rs k i = []) : Lev p rs k0 k la (j + 1) M L := by
  refine ⟨h.clo, h.snd, fun a ha x hx => ?_, h.lst⟩
  rw [List.take_add_one, hi] at ha
  rcases List.mem_append.1 ha with ha | ha
  · exact h.seeds a ha x hx
  · obtain rfl : a = i := by simpa using ha
    rw [hn] at hx; simp at hx
theorem Lev.put {p : List Ins} {rs : List Int} {k0 k j i y : Nat} {la : List Nat} {M M' : Nat → Prop} {L L' : List Nat} (h : Lev p rs k0 k la j M L) (hi : la[j]? = some i) (hr : Reach p rs k0 i k) (hn : nxt p rs k i = [y]) (hp : PutR p rs.length (k + 1) M L y M' L') : Lev p rs k0 k la (j + 1) M' L' := by
  have hy : Reach p rs k0 y (k + 1) := .nxt i y k hr (by rw [hn]; simp)
  refine ⟨hp.closed h.clo, fun a ha => ?_, fun a ha x hx => ?_, hp.lists h.lst⟩
  · rcases hp.from_ (fun q => Reach p rs k0 q (k + 1)) hy (fun u v hu hv => .eps u v (k + 1) hu hv) a ha with h1 | h1
    · exact h.snd a h1
    · exact h1
  · rw [List.take_add_one, hi] at ha
    rcases List.mem_append.1 ha with ha | ha
    · exact hp.sub x (h.seeds a ha x hx)
    · obtain rfl : a = i := by simpa using ha
      rw [hn] at hx
      obtain rfl : x = y := by simpa using hx
      exact hp.has
theorem Lev.exact {p : List Ins} {rs : List Int} {k0 k : Nat} {la : List Nat} {M N : Nat → Prop} {L : List Nat} (h : Lev p rs k0 k la la.length M L) (hk : k0 ≤ k) (hN : Exact p rs k0 k N) (hl : Lists p N la) : Exact p rs k0 (k + 1) M := by
  refine exact_next hk hN h.clo h.snd fun i j hi hj => ?_
  have := (hl i).2 ⟨hi, nxt_stays hj⟩
  exact h.seeds i (by rw [List.take_length]; exact this) j hj
end Go.Proofs.Ytjfkppbfckgckaa
