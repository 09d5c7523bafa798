/-
  The contract of reedbedref09.points; no condition beyond those that each theorem states.
-/
import Derived.Test.YtgfienopijlnkaaRefGet2
import Derived.Test.YtgfienopijlnkaaIntsD
import Derived.Handy
namespace Go.Proofs.Ytgfienopijlnkaa
open Go.RowKit Go.Rb
attribute [local irreducible] Go.wpQuiet

def ptsF : Nat → List UInt8 → Option (List Int)
  | 0, _ => some []
  | f + 1, l => if l.isEmpty then some [] else if putL (refP l).1 == l.take (refP l).2.toNat then (ptsF f (l.drop (refP l).2.toNat)).map ((refP l).1 :: ·) else none
/-- A text's code points; none: it has octets that are none's. -/
def pts (l : List UInt8) : Option (List Int) := ptsF l.length l
theorem refAt_bd (l : List UInt8) : ∀ (f k : Nat), 1 ≤ k → f + k = 6 → 1 ≤ l.length → 1 ≤ (refAt l f k).2 ∧ (refAt l f k).2 ≤ (l.length : Int) := by
  intro f
  induction f with
  | zero => intro k _ _ h; exact ⟨Int.le_refl 1, by show (1 : Int) ≤ (l.length : Int); omega⟩
  | succ f ih =>
    intro k h1 h2 h
    unfold refAt
    split
    · split
      · constructor
        · show (1 : Int) ≤ (k : Int); omega
        · show (k : Int) ≤ _; omega
      · exact ih (k + 1) (by omega) (by omega) h
    · constructor
      · show (1 : Int) ≤ 1; omega
      · show (1 : Int) ≤ (l.length : Int); omega
theorem refP_bd (l : List UInt8) (h : 1 ≤ l.length) : 1 ≤ (refP l).2 ∧ (refP l).2 ≤ (l.length : Int) := by
  unfold refP
  rw [if_neg (by omega)]
  exact refAt_bd l 5 1 (by omega) (by omega) h

/-- What points answers. -/
def RetPts (w : World) (l : List UInt8) (e : Ending) (w' : World) : Prop :=
  Below w.heap.size w w' ∧ match pts l with
  | some rs => ∃ v, e = .returned (.tuple #[v, .bool true]) ∧ Own w' 3 1 v rs.length (rs.map iV) ∧ (∀ k, v.ownBlock = some k → w.heap.size ≤ k)
  | none => e = .returned (.tuple #[.slice none 0 0, .bool false])
theorem extract_drop (s : ByteArray) (k : Nat) : (s.extract k s.size).data.toList = s.data.toList.drop k := by
  rw [ByteArray.data_extract, Array.toList_extract]
  unfold List.extract
  exact List.take_of_length_le (by rw [List.length_drop]; simp)
theorem toList_data (x : ByteArray) : x.toList = x.data.toList := by
  obtain ⟨⟨l⟩⟩ := x
  rw [ByteArray.toList_mk]
theorem start_ (s : ByteArray) : Hid (pts s.data.toList = (ptsF s.size s.data.toList).map (([] : List Int) ++ ·)) := by
  show _ = _
  unfold pts
  rw [show s.data.toList.length = s.size from by rw [Array.length_toList]; rfl]
  cases ptsF s.size s.data.toList <;> rfl
set_option maxHeartbeats 1000000 in
theorem points_any (s : ByteArray) (hm : s.size ≤ 1000) (w : World) : Calls Try.prog 11 #[.string s] w (RetPts w s.data.toList) := by
  obtain ⟨i0, hi0, hz0, hz1, hz2⟩ := info_parts info3
  go_enter Try.func11, Try.ntmps11
  go_wp2_with fail
  go_loopw [0, 4] (fun v0 v4 wr => ∃ (t : ByteArray) (f : Nat) (xs : List Int), v0 = .string t ∧ t.size ≤ f ∧ f ≤ 1000 ∧ xs.length + t.size ≤ 1000 ∧ Own wr 3 1 v4 xs.length (xs.map iV) ∧ Hid (∀ k, v4.ownBlock = some k → w.heap.size ≤ k) ∧ Below w.heap.size w wr ∧ Hid (pts s.data.toList = (ptsF f t.data.toList).map (xs ++ ·))) (fun v0 _ _ => match v0 with | .string t => t.size | _ => 0)
  case atStart => exact ⟨s, s.size, [], rfl, Nat.le_refl _, hm, by simpa using hm, Own.nil_ _ _ _, by simp [Hid, Value.ownBlock], Below.refl _ _, start_ s⟩
  case round =>
  obtain ⟨t, f, xs, rfl, hf, hf2, hx, hv, hkv, hbw, hp⟩ := hrel
  obtain ⟨Av, cv, rfl, -, -⟩ := hv.len_
  have HB := Lib.hid hbw
  have HV := Lib.hid hv
  clear hv hbw
  have hls : t.data.toList.length = t.size := by rw [Array.length_toList]; rfl
  by_cases h0 : t.size = 0
  · have F1 : ¬ 0 < t.size := by omega
    have HF : Hid (pts s.data.toList = some xs) := by
      show _ = _
      have hn : t.data.toList = [] := List.eq_nil_of_length_eq_zero (by omega)
      rw [hp.out, hn]
      cases f <;> simp [ptsF]
    clear hls h0
    go_wp2_with fail
    go_returns
    refine ⟨HB.out, ?_⟩
    rw [HF.out]
    exact ⟨_, rfl, HV.out, hkv.out⟩
  · have F1 : 0 < t.size := by omega
    obtain ⟨g, rfl⟩ : ∃ g, f = g + 1 := ⟨f - 1, by omega⟩
    obtain ⟨hn1, hn2⟩ := refP_bd t.data.toList (by omega)
    have HP : Hid (ptsF (g + 1) t.data.toList = if putL (refP t.data.toList).1 == t.data.toList.take (refP t.data.toList).2.toNat then (ptsF g (t.data.toList.drop (refP t.data.toList).2.toNat)).map ((refP t.data.toList).1 :: ·) else none) := by
      show _ = _
      rw [ptsF, if_neg (by cases hq : t.data.toList with | nil => rw [hq] at hls; simp at hls; omega | cons a b => simp)]
    have HGET := Lib.hid (refGet_any t (by omega) wr)
    obtain ⟨q, hq⟩ : ∃ q, refP t.data.toList = q := ⟨_, rfl⟩
    rw [hq] at hn1 hn2 HP HGET
    obtain ⟨r, kk⟩ := q
    obtain ⟨k, rfl⟩ : ∃ k : Nat, kk = k := ⟨kk.toNat, by show kk = _; simp only at hn1; omega⟩
    clear hq
    simp only [Int.toNat_natCast] at HP hn1 hn2 HGET
    have hkt : k ≤ t.size := by omega
    obtain ⟨d, hd⟩ : ∃ d, (putL r == (t.extract 0 k).toList) = d := ⟨_, rfl⟩
    rw [show (putL r == t.data.toList.take k) = d from by rw [← extract_take, ← toList_data, hd]] at HP
    have HPUT := Lib.hid (fun W => refPut_any r W)
    have hXl : (t.extract k t.size).data.toList = t.data.toList.drop k := extract_drop t k
    have hXs : (t.extract k t.size).size = t.size - k := by simp [ByteArray.size_extract]
    go_wp2_with fail
    refine HGET.out.mono ?_
    rintro e1 w1 ⟨rfl, hb1⟩
    have HB1 := Lib.hid (below_trans HB.out hb1)
    have HV1 := Lib.hid (HV.out.below hb1 (fun k hk => HV.out.lt hk))
    clear hb1
    go_wp2_with fail
    refine region_rows (by kernel_rfl) (fun W W' => Below W.heap.size W W')
      [.val (.int .i64 r),
       .val (.string ⟨(putL r).toArray⟩),
       .val (.string t),
       .val (.int .i64 (k : Int)),
       .val (.string (t.extract 0 k)),
       .val (.bool (!d))]
      (fun W => Below.refl _ W) (fun _ _ _ h k => below_trans h k) (by kernel_rfl) ?_ ?_
    · refine ⟨?_, ?_, ?_, ?_, ?_, ?_, trivial⟩
      · intro ra RW hR hk hd K hK
        obtain ⟨e5, g5⟩ := hk 5 (.int .i64 r) (by kernel_rfl) rfl
        clear hk hd
        have HR := Lib.hid hR
        clear hR
        go_simp
        exact hK _ _ (Below.refl _ _) rfl
      · intro ra RW hR hk hd K hK
        obtain ⟨v15, e15, g15, f15⟩ := hd 0 15 (by kernel_rfl) rfl
        have f15 : v15 = .int .i64 r := f15
        subst f15
        clear hk hd
        have HR := Lib.hid hR
        clear hR
        go_simp
        refine (HPUT.out RW).mono ?_
        rintro e w2 ⟨rfl, hb2⟩
        exact hK _ _ hb2 rfl
      · intro ra RW hR hk hd K hK
        obtain ⟨e0, g0⟩ := hk 0 (.string t) (by kernel_rfl) rfl
        clear hk hd
        have HR := Lib.hid hR
        clear hR
        go_simp
        exact hK _ _ (Below.refl _ _) rfl
      · intro ra RW hR hk hd K hK
        obtain ⟨e6, g6⟩ := hk 6 (.int .i64 (k : Int)) (by kernel_rfl) rfl
        clear hk hd
        have HR := Lib.hid hR
        clear hR
        go_simp
        exact hK _ _ (Below.refl _ _) rfl
      · intro ra RW hR hk hd K hK
        obtain ⟨v17, e17, g17, f17⟩ := hd 2 17 (by kernel_rfl) rfl
        have f17 : v17 = .string t := f17
        subst f17
        obtain ⟨v18, e18, g18, f18⟩ := hd 3 18 (by kernel_rfl) rfl
        have f18 : v18 = .int .i64 (k : Int) := f18
        subst f18
        clear hk hd
        have HR := Lib.hid hR
        clear hR
        go_simp
        exact hK _ _ (Below.refl _ _) rfl
      · intro ra RW hR hk hd K hK
        obtain ⟨v16, e16, g16, f16⟩ := hd 1 16 (by kernel_rfl) rfl
        have f16 : v16 = .string ⟨(putL r).toArray⟩ := f16
        subst f16
        obtain ⟨v19, e19, g19, f19⟩ := hd 4 19 (by kernel_rfl) rfl
        have f19 : v19 = .string (t.extract 0 k) := f19
        subst f19
        clear hk hd
        have HR := Lib.hid hR
        clear hR
        go_simp
        exact hK _ _ (Below.refl _ _) rfl
    intro vs RW hR hF
    have q0 : vs 0 = .int .i64 r := hF 0 (by decide)
    have q1 : vs 1 = .string ⟨(putL r).toArray⟩ := hF 1 (by decide)
    have q2 : vs 2 = .string t := hF 2 (by decide)
    have q3 : vs 3 = .int .i64 (k : Int) := hF 3 (by decide)
    have q4 : vs 4 = .string (t.extract 0 k) := hF 4 (by decide)
    have q5 : vs 5 = .bool (!d) := hF 5 (by decide)
    simp only [setAll, List.setIfInBounds_toArray, List.set_cons_zero, List.set_cons_succ, q0, q1, q2, q3, q4, q5]
    clear hF q0 q1 q2 q3 q4 q5
    clear vs
    have HB2 := Lib.hid (below_trans (Below.drew HB1.out) hR)
    have HV2 := Lib.hid (HV1.out.drew.below hR (fun k hk => HV1.out.drew.lt hk))
    clear hd hR
    generalize t.extract 0 k = u at *
    obtain ⟨X, hXX⟩ : ∃ X, t.extract k t.size = X := ⟨_, rfl⟩
    rw [hXX] at hXl hXs
    have hsl : ∀ W, (Instr.slice 9 (.string t) (some (.int .i64 (k : Int))) none none).run Try.prog W = .ok (.string X) W := fun W => by
      rw [← hXX]
      go_simp
    cases d with
    | false =>
      rw [if_neg (by decide)] at HP
      have HF : Hid (pts s.data.toList = none) := (by rw [hp.out, HP.out]; rfl)
      clear hXl hXs hXX hsl
      go_wp2_with fail
      go_returns
      refine ⟨HB2.out, ?_⟩
      rw [HF.out]
      exact rfl
    | true =>
      rw [if_pos rfl] at HP
      have HX : Hid (pts s.data.toList = (ptsF g X.data.toList).map ((xs ++ [r]) ++ ·)) := by
        show _ = _
        rw [hp.out, HP.out, hXl]
        cases ptsF g (t.data.toList.drop k) <;> simp
      clear hXl hXX
      have e1 : (xs ++ [r]).length = xs.length + 1 := by simp
      have e2 : (xs ++ [r]).map iV = xs.map iV ++ [.int .i64 r] := by rw [List.map_append]; rfl
      generalize xs ++ [r] = ys at *
      have E1 := Lib.hid e1
      have E2 := Lib.hid e2
      clear e1 e2
      generalize hm : xs.map iV = xv at *
      generalize xs.length = m at *
      clear hm
      go_wp2_with (at_builtin; refine wpList_append_mine _ rfl (.tmp 21) (.tmp 23) _ rfl 3 i0 _ 1 8 Try.underlying38 hi0 hz0 hz1 hz2 rfl (by omega) (.slice Av m cv) m xv rfl (by exact HV2.out.alloc _) _ 1 1 [_] rfl rfl (by exact news_push rfl rfl) (by simp [Value.oneCell']) (by omega) (by simp only [maxLen]; omega) (by omega) _ rfl ?_; intro g6 o6 c6 w6 hown6 hgrow6 hat6; have HO6 := Lib.hid hown6; have HB6 := Lib.hid (Below.grown (HB2.out.alloc HB2.out.size _) hgrow6 (by simp; have := HB2.out.size; omega) hkv.out); have HK6 : Hid (w.heap.size ≤ g6) := (by show _ ≤ _; rcases hat6 with h | h; exact hkv.out _ h; rw [h]; have := HB2.out.size; simp; omega); clear hown6 hgrow6 hat6)
      go_roundw
      case rel => exact ⟨X, g, ys, rfl, by omega, by omega, by rw [E1.out]; omega, by rw [E1.out, E2.out]; exact HO6.out, fun k hk => by simp [Value.ownBlock] at hk; rw [← hk]; exact HK6.out, HB6.out, HX.out⟩
      case measure => show X.size < t.size; omega
end Go.Proofs.Ytgfienopijlnkaa
