/-
  Hits, records and lines, and how they lie in memory; the contracts of slices.Clone and slices.DeleteFunc at hits; no condition beyond those that each theorem states.
-/
import Derived.Test.YtbgmdjceecbbhaaDoorRegion4
import Derived.Test.YtbgmdjceecbbhaaDoorTail
import Derived.Handy
namespace Go.Proofs.YtbgmdjceecbbhaaDoor
open Go.RowKit Go.Rb
attribute [local irreducible] Go.wpQuiet

/-- A text of octets. -/
def mk (l : List UInt8) : ByteArray := ⟨l.toArray⟩
theorem mk_size (l : List UInt8) : (mk l).size = l.length := rfl
theorem mk_list (l : List UInt8) : (mk l).data.toList = l := rfl
theorem mk_eta (s : ByteArray) : mk s.data.toList = s := by cases s; rfl
theorem mk_append (a b : List UInt8) : mk a ++ mk b = mk (a ++ b) := by
  apply ByteArray.ext
  unfold mk
  simp [ByteArray.data_append]
def nV (k : Nat) : Value := .int .i64 (k : Int)
def pp (p : Nat) : Value := .pointer (some ⟨p, 0, none⟩)
structure Ht where
  f : Int
  t : Int
def ht (h : Ht) : List Value := [.int .i64 h.f, .int .i64 h.t]
def hts (l : List Ht) : List Value := l.flatMap ht
theorem hts_len : ∀ l : List Ht, (hts l).length = l.length * 2
  | [] => rfl
  | x :: t => by have := hts_len t; simp only [hts, ht, List.flatMap_cons, List.length_append, List.length_cons, List.length_nil] at this ⊢; omega
theorem hts_append (a b : List Ht) : hts (a ++ b) = hts a ++ hts b := List.flatMap_append
theorem hts_get : ∀ (l : List Ht) (i j : Nat) (h : i < l.length), j < 2 → (hts l)[i * 2 + j]? = (ht l[i])[j]?
  | x :: t, 0, j, _, hj => by
    show (ht x ++ hts t)[0 * 2 + j]? = _
    rw [Nat.zero_mul, Nat.zero_add, List.getElem?_append_left (by simpa [ht] using hj)]; rfl
  | x :: t, i + 1, j, h, hj => by
    show (ht x ++ hts t)[(i + 1) * 2 + j]? = _
    have e : (i + 1) * 2 + j = (ht x).length + (i * 2 + j) := by simp [ht]; omega
    rw [e, List.getElem?_append_right (by omega), Nat.add_sub_cancel_left]
    exact hts_get t i j (by simpa using h) hj
theorem hts_take (l : List Ht) (k : Nat) : hts (l.take k) = (hts l).take (k * 2) := by
  induction l generalizing k with
  | nil => simp [hts]
  | cons x t ih =>
    cases k with
    | zero => simp [hts]
    | succ k =>
      rw [List.take_succ_cons, show hts (x :: t.take k) = ht x ++ hts (t.take k) from rfl, ih, show hts (x :: t) = ht x ++ hts t from rfl, show (k + 1) * 2 = (ht x).length + k * 2 by simp [ht]; omega, List.take_length_add_append]
theorem hts_one (l : List Ht) : ∀ u ∈ hts l, u.oneCell' = true := by
  intro u hu
  simp only [hts, List.mem_flatMap] at hu
  obtain ⟨x, -, hx⟩ := hu
  simp only [ht, List.mem_cons, List.not_mem_nil, or_false] at hx
  rcases hx with rfl | rfl <;> rfl
/-- A record. -/
structure Rc where
  n : Int
  a : Int
  t : List UInt8
def rc (x : Rc) : List Value := [.int .i64 x.n, .int .i64 x.a, .string (mk x.t)]
def rcv (x : Rc) : Value := .agg #[.int .i64 x.n, .int .i64 x.a, .string (mk x.t)]
def rcs (l : List Rc) : List Value := l.flatMap rc
theorem rcs_len : ∀ l : List Rc, (rcs l).length = l.length * 3
  | [] => rfl
  | x :: t => by have := rcs_len t; simp only [rcs, rc, List.flatMap_cons, List.length_append, List.length_cons, List.length_nil] at this ⊢; omega
theorem rcs_append (a b : List Rc) : rcs (a ++ b) = rcs a ++ rcs b := List.flatMap_append
theorem rcs_get : ∀ (l : List Rc) (i j : Nat) (h : i < l.length), j < 3 → (rcs l)[i * 3 + j]? = (rc l[i])[j]?
  | x :: t, 0, j, _, hj => by
    show (rc x ++ rcs t)[0 * 3 + j]? = _
    rw [Nat.zero_mul, Nat.zero_add, List.getElem?_append_left (by simpa [rc] using hj)]; rfl
  | x :: t, i + 1, j, h, hj => by
    show (rc x ++ rcs t)[(i + 1) * 3 + j]? = _
    have e : (i + 1) * 3 + j = (rc x).length + (i * 3 + j) := by simp [rc]; omega
    rw [e, List.getElem?_append_right (by omega), Nat.add_sub_cancel_left]
    exact rcs_get t i j (by simpa using h) hj
/-- Lines. -/
def lns (l : List (List UInt8)) : List Value := l.map fun s => .string (mk s)
theorem lns_append (a b : List (List UInt8)) : lns (a ++ b) = lns a ++ lns b := List.map_append
theorem lns_len (l : List (List UInt8)) : (lns l).length = l.length := List.length_map ..
theorem lns_one (l : List (List UInt8)) : ∀ u ∈ lns l, u.oneCell' = true := by
  intro u hu
  simp only [lns, List.mem_map] at hu
  obtain ⟨x, -, rfl⟩ := hu
  rfl
/-- Does a hit lie in a text of so many octets? -/
def good (m : Nat) (h : Ht) : Bool := decide (0 ≤ h.f) && decide (h.f ≤ h.t) && decide (h.t ≤ (m : Int))
theorem infoH : (Tryd.prog.info? 47).map (fun i => (i.zero, i.size, i.bytes)) = some (some (.agg #[.int .i64 0, .int .i64 0]), 2, 16) := by kernel_rfl
theorem infoS : (Tryd.prog.info? 9).map (fun i => (i.zero, i.size, i.bytes)) = some (some (.string ⟨#[]⟩), 1, 16) := by kernel_rfl
theorem infoR : (Tryd.prog.info? 29).map (fun i => (i.zero, i.size, i.bytes)) = some (some (.agg #[.int .i64 0, .int .i64 0, .string ⟨#[]⟩]), 3, 32) := by kernel_rfl

set_option maxHeartbeats 1000000 in
theorem clone_any (A : Option Addr) (n c B : Nat) (hs : List Ht) (w : World) (hr : Rd w B 2 A n (hts hs)) (hB : B ≤ w.heap.size) (hn : n ≤ 1000) :
    Calls Tryd.prog 18 #[.slice A n c] w fun e w' => ∃ v, e = .returned v ∧ Own w' 47 2 v n (hts hs) ∧ (∀ k, v.ownBlock = some k → w.heap.size ≤ k) ∧ Below w.heap.size w w' := by
  obtain ⟨i0, hi0, hz0, hz1, hz2⟩ := info_parts infoH
  have q22 : ∀ (w : World) (a : Option Addr) (n c n' c' : Nat), (binOp .eql 30 (.slice a n c) (.slice none n' c')).run Tryd.prog w = .ok (.bool a.isNone) w := fun w a n c n' c' => Lib.run_eql_slice_nil w _ _ a n c n' c' Tryd.underlying30
  cases A with
  | none =>
    have h0 : n = 0 := by
      rcases Nat.eq_zero_or_pos n with h | h
      · exact h
      · obtain ⟨b, off, hA, -⟩ := hr.2 h; cases hA
    subst h0
    have hx : hts hs = [] := List.eq_nil_of_length_eq_zero (by simpa using hr.1)
    have HX := Lib.hid hx
    clear hr hx
    go_enter Tryd.func18, Tryd.ntmps18
    go_wp2_with fail
    go_ret
    exact ⟨_, rfl, by rw [HX.out]; exact Own.nil_ _ _ _, by simp [Value.ownBlock], Below.refl _ _⟩
  | some a =>
    have HR := Lib.hid hr
    have HB := Lib.hid hB
    have H1 := Lib.hid (hts_one hs)
    have H63 := Lib.hid (show 0 + n ≤ maxLen by simp only [maxLen]; omega)
    clear hr hB
    generalize hts hs = xs at *
    go_enter Tryd.func18, Tryd.ntmps18
    go_wp2_with (at_builtin; go_loud (refine wpList_append_rd _ rfl (.tmp 5) (.tmp 6) _ rfl 47 i0 _ 2 16 Tryd.underlying30 hi0 hz0 hz1 hz2 rfl (by omega) (.slice (some ⟨w.heap.size, 0, none⟩) 0 0) 0 [] rfl (by exact Own.lit w 47 2 0 #[] rfl (by decide)) _ (some a) n c xs rfl (by exact HR.out.below (below_al (Below.refl _ w) _ |>.mono HB.out)) H1.out H63.out (by omega) _ rfl ?_; intro v2 w2 hown2 hgrow2 hat2; rw [Nat.zero_add, List.nil_append] at hown2; have HO2 := Lib.hid hown2; have HB2 := Lib.hid (Below.grown (below_al (Below.refl _ w) (.cells #[] 47)) hgrow2 (by simp) (by simp [Value.ownBlock])); have HK2 : Hid (∀ k, v2.ownBlock = some k → w.heap.size ≤ k) := (fun k hk => by rcases hat2 with h | h; (have := h.symm.trans hk; simp [Value.ownBlock] at this; omega); (have := h.symm.trans hk; simp at this; omega)); clear hown2 hgrow2 hat2))
    go_ret
    exact ⟨v2, rfl, HO2.out, HK2.out, HB2.out⟩
set_option maxHeartbeats 1000000 in
theorem bad_any (h : Ht) (g : Nat) (N A : Int) (x : List UInt8) (w : World) (hb : w.cell? ⟨g, 2, none⟩ = some (.string (mk x))) :
    Calls Tryd.prog 19 #[.agg #[.int .i64 h.f, .int .i64 h.t], .pointer (some ⟨g, 0, none⟩)] w fun e w' => e = .returned (.bool (!good x.length h)) ∧ Below w.heap.size w w' := by
  have hg : g < w.heap.size := World.block_lt_of_cell? w _ hb
  have hgd : good x.length h = (decide (0 ≤ h.f) && decide (h.f ≤ h.t) && decide (h.t ≤ (x.length : Int))) := rfl
  obtain ⟨f, t⟩ := h
  simp only at hgd ⊢
  have hz := mk_size x
  obtain ⟨R, hR⟩ : ∃ R, good x.length ⟨f, t⟩ = R := ⟨_, rfl⟩
  rw [hR] at hgd ⊢
  have HG := Lib.hid hgd
  clear hgd hR
  generalize mk x = bx at *
  generalize x.length = lx at *
  by_cases h1 : f < 0
  · have HX : Hid (R = false) := by show R = false; rw [HG.out, decide_eq_false (show ¬ 0 ≤ f by omega)]; rfl
    rw [HX.out]
    go_enter Tryd.func19, Tryd.ntmps19
    go_wp2_with fail
    go_ret
    exact ⟨rfl, below_al (Below.refl _ _) _⟩
  · by_cases h2 : t < f
    · have HX : Hid (R = false) := by show R = false; rw [HG.out, decide_eq_false (show ¬ f ≤ t by omega)]; simp
      rw [HX.out]
      go_enter Tryd.func19, Tryd.ntmps19
      go_wp2_with fail
      go_ret
      exact ⟨rfl, below_al (Below.refl _ _) _⟩
    · by_cases h3 : (lx : Int) < t
      · have HX : Hid (R = false) := by show R = false; rw [HG.out, decide_eq_false (show ¬ t ≤ (lx : Int) by omega)]; simp
        rw [HX.out]
        go_enter Tryd.func19, Tryd.ntmps19
        go_wp2_with fail
        go_ret
        exact ⟨rfl, below_al (Below.refl _ _) _⟩
      · have HX : Hid (R = true) := by show R = true; rw [HG.out, decide_eq_true (show 0 ≤ f by omega), decide_eq_true (show f ≤ t by omega), decide_eq_true (show t ≤ (lx : Int) by omega)]; rfl
        rw [HX.out]
        go_enter Tryd.func19, Tryd.ntmps19
        go_wp2_with fail
        go_ret
        exact ⟨rfl, below_al (Below.refl _ _) _⟩
end Go.Proofs.YtbgmdjceecbbhaaDoor
