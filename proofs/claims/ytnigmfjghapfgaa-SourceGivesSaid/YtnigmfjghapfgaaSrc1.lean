/-
  The source's state, how it lies in memory, and the contracts of source.New, Given, Left; no condition beyond those that each theorem states.
-/
import Derived.Test.YtnigmfjghapfgaaCut1
import Derived.Test.YtnigmfjghapfgaaRegion2
namespace Go.Proofs.Ytnigmfjghapfgaa
open Go.RowKit Go.Rb

/-- What is left, in pieces; how many octets were given, how many are left; where it fails. -/
structure SS where
  ps : List (List UInt8)
  gv : Nat
  lf : Nat
  fl : Int
def pp (p : Nat) : Value := .pointer (some ⟨p, 0, none⟩)

/-- The source at p: its pieces at pv; all in blocks of S. -/
structure RepA (w : World) (S : Nat → Prop) (p : Nat) (pv : Value) (vs : List Value) (s : SS) : Prop where
  tb : Blk w p 49 #[pv, .int .i64 (s.gv : Int), .int .i64 (s.lf : Int), .int .i64 s.fl]
  po : Own w 22 1 pv s.ps.length vs
  pc : ∀ (i : Nat) (q : List UInt8), s.ps[i]? = some q → ∃ v, vs[i]? = some v ∧ Own w 5 1 v q.length (q.map bV) ∧ ∀ k, v.ownBlock = some k → S k
  sp : S p
  sv : ∀ k, pv.ownBlock = some k → S k
  lt : ∀ k, S k → k < w.heap.size
def Rep (w : World) (S : Nat → Prop) (p : Nat) (s : SS) : Prop := ∃ pv vs, RepA w S p pv vs s
/-- No piece is empty; what is left is counted. -/
structure Wf (s : SS) : Prop where
  ne : ∀ q ∈ s.ps, q ≠ []
  lf : s.lf = s.ps.flatten.length

section
variable {w w' : World} {S S' T : Nat → Prop} {p : Nat} {pv : Value} {vs : List Value} {s : SS}
theorem own_ne_blk {e t : TypeId} {sz n g : Nat} {v : Value} {xs : List Value} {cs : Array Value} (h : Own w e sz v n xs) (hb : Blk w g t cs) (hne : e ≠ t) : v.ownBlock ≠ some g := by
  intro hk
  rcases h.2 with ⟨rfl, _⟩ | ⟨g', off, cap, cur, rfl, hg, _⟩
  · simp [Value.ownBlock] at hk
  · have e1 : g' = g := by simpa [Value.ownBlock] using hk
    subst e1
    exact Blk.ne_ (t := _) (t' := _) hg hb hne rfl
theorem RepA.frame (h : RepA w S p pv vs s) (hb : Only T w w') (hd : ∀ k, S k → ¬ T k) : RepA w' S p pv vs s :=
  ⟨h.tb.only hb (hd _ h.sp), h.po.only hb fun k hk => hd _ (h.sv k hk), fun i q hq => by
    obtain ⟨v, h1, h2, h3⟩ := h.pc i q hq
    exact ⟨v, h1, h2.only hb fun k hk => hd _ (h3 k hk), h3⟩, h.sp, h.sv, fun k hk => Nat.lt_of_lt_of_le (h.lt k hk) hb.size⟩
theorem Rep.frame (h : Rep w S p s) (hb : Only T w w') (hd : ∀ k, S k → ¬ T k) : Rep w' S p s := by
  obtain ⟨a, b, h⟩ := h; exact ⟨a, b, h.frame hb hd⟩
theorem RepA.c0 (h : RepA w S p pv vs s) : w.cell? ⟨p, 0, none⟩ = some pv := by rw [h.tb.cell]; rfl
theorem RepA.c1 (h : RepA w S p pv vs s) : w.cell? ⟨p, 1, none⟩ = some (.int .i64 (s.gv : Int)) := by rw [h.tb.cell]; rfl
theorem RepA.c2 (h : RepA w S p pv vs s) : w.cell? ⟨p, 2, none⟩ = some (.int .i64 (s.lf : Int)) := by rw [h.tb.cell]; rfl
theorem RepA.c3 (h : RepA w S p pv vs s) : w.cell? ⟨p, 3, none⟩ = some (.int .i64 s.fl) := by rw [h.tb.cell]; rfl
theorem RepA.first (h : RepA w S p pv vs s) {q : List UInt8} {rest : List (List UInt8)} (hp : s.ps = q :: rest) (hq : q ≠ []) : ∃ gp op np cp g0 o0 c0 vs', pv = .slice (some ⟨gp, op, none⟩) np cp ∧ np = rest.length + 1 ∧ np ≤ cp ∧ S gp ∧
    vs = .slice (some ⟨g0, o0, none⟩) q.length c0 :: vs' ∧ w.cell? ⟨gp, op, none⟩ = some (.slice (some ⟨g0, o0, none⟩) q.length c0) ∧ (∀ j, w.frozen? ⟨gp, j, none⟩ = false) ∧ Own w 5 1 (.slice (some ⟨g0, o0, none⟩) q.length c0) q.length (q.map bV) ∧ S g0 ∧ q.length ≤ c0 := by
  obtain ⟨gp, op, cp, hv, hcp, _, _, hc, hf⟩ := h.po.form (by rw [hp]; simp)
  obtain ⟨v, h1, h2, h3⟩ := h.pc 0 q (by rw [hp]; rfl)
  have hl : 0 < q.length := List.length_pos_iff.2 hq
  obtain ⟨g0, o0, c0, rfl, hc0, _⟩ := h2.form hl
  have hc' := hc 0 (by rw [hp]; simp)
  cases vs with
  | nil => simp at h1
  | cons a vs' =>
    obtain rfl : a = .slice (some ⟨g0, o0, none⟩) q.length c0 := by simpa using h1
    refine ⟨gp, op, _, cp, g0, o0, c0, vs', hv, by rw [hp]; simp, hcp, h.sv gp (by rw [hv]; rfl), rfl, by simpa using hc', hf, h2, h3 g0 rfl, hc0⟩
end

theorem rep_fin {w w3 W : World} {S : Nat → Prop} {p gv lf : Nat} {fl : Int} {pv : Value} {vs : List Value} {ps : List (List UInt8)} {cs : Array Value} (h3 : Blk w3 p 49 cs) (hW : Only (fun k => k = p) w3 W)
    (hb : Blk W p 49 #[pv, .int .i64 (gv : Int), .int .i64 (lf : Int), .int .i64 fl]) (ho : Own w3 22 1 pv ps.length vs)
    (hpc : ∀ (i : Nat) (q : List UInt8), ps[i]? = some q → ∃ v, vs[i]? = some v ∧ Own w3 5 1 v q.length (q.map bV) ∧ ∀ k, v.ownBlock = some k → S k)
    (hsp : S p) (hsv : ∀ k, pv.ownBlock = some k → S k) (hlt : ∀ k, S k → k < w.heap.size) (hsz : w.heap.size ≤ w3.heap.size) : RepA W S p pv vs ⟨ps, gv, lf, fl⟩ :=
  ⟨hb, ho.only hW (fun k hk e => own_ne_blk ho h3 (by decide) (by rw [hk, e])), fun i q hq => by
    obtain ⟨v, h1, h2, h4⟩ := hpc i q hq
    exact ⟨v, h1, h2.only hW (fun k hk e => own_ne_blk h2 h3 (by decide) (by rw [hk, e])), h4⟩, hsp, hsv, fun k hk => by have := hlt k hk; have := hW.size; omega⟩

set_option maxHeartbeats 2000000 in
theorem new_any (bs : List UInt8) (zs : List Int) (fl : Int) (A Z : Option Addr) (n c m d B : Nat) (w : World) (hr : Rd w B 1 A n (bs.map bV)) (hz : Rd w B 1 Z m (zs.map iV)) (hn : n ≤ 100000) (hc : n ≤ c) (hm : m ≤ 1000) (hB : B ≤ w.heap.size) :
    Calls Try.prog 8 #[.slice A n c, .int .i64 fl, .slice Z m d] w fun e w' => ∃ p S, e = .returned (pp p) ∧ Below w.heap.size w w' ∧ Rep w' S p ⟨cutP bs zs, 0, bs.length, fl⟩ ∧ ∀ q, S q → w.heap.size ≤ q := by
  have HC := Lib.hid (cut_any bs zs A Z n c m d B w hr hz hn hc hm hB)
  have hl : bs.length = n := by simpa using hr.1
  have HL := Lib.hid hl
  clear hr hz hl
  go_enter Try.func8, Try.ntmps8
  go_wp2_with (go_at_call 19; refine HC.out.mono ?_; rintro e1 w1 ⟨v1, rfl, hn1⟩; obtain ⟨A1, c1, rfl, -, -⟩ := hn1.choose_spec.1.len_; have HN := Lib.hid hn1; clear hn1)
  go_ret
  obtain ⟨vs, hown, hpcs, hbel, hblk⟩ := HN.out
  have hb1 : Blk (w1.alloc (.cells #[.slice A1 (cutP bs zs).length c1, .int .i64 0, .int .i64 (n : Int), .int .i64 fl] 49)) w1.heap.size 49 #[.slice A1 (cutP bs zs).length c1, .int .i64 0, .int .i64 (n : Int), .int .i64 fl] := Blk.new _ _ _
  have hs := hbel.size
  refine ⟨w1.heap.size, fun k => w.heap.size ≤ k ∧ k < w1.heap.size + 1, rfl, hbel.alloc hs _, ⟨.slice A1 (cutP bs zs).length c1, vs, ?_, hown.alloc _, fun i q hq => ?_, ⟨hs, by omega⟩, fun k hk => ⟨hblk k hk, by have := hown.lt hk; omega⟩, fun k hk => by simp; omega⟩, fun q hq => hq.1⟩
  · rw [HL.out]; exact hb1
  · obtain ⟨v, h1, h2, h3⟩ := hpcs.at_ i q hq
    exact ⟨v, h1, h2.alloc _, fun k hk => ⟨h3 k hk, by have := h2.lt hk; omega⟩⟩

set_option maxHeartbeats 1000000 in
theorem given_any {S : Nat → Prop} {p : Nat} {s : SS} (w : World) (hR : Rep w S p s) : Calls Try.prog 12 #[pp p] w fun e w' => e = .returned (.int .i64 (s.gv : Int)) ∧ w = w' := by
  obtain ⟨pv, vs, h⟩ := hR
  have c1 := h.c1
  clear h
  unfold pp
  go_enter Try.func12, Try.ntmps12
  go_wp2
  go_ret
  exact ⟨rfl, rfl⟩
set_option maxHeartbeats 1000000 in
theorem left_any {S : Nat → Prop} {p : Nat} {s : SS} (w : World) (hR : Rep w S p s) : Calls Try.prog 13 #[pp p] w fun e w' => e = .returned (.int .i64 (s.lf : Int)) ∧ w = w' := by
  obtain ⟨pv, vs, h⟩ := hR
  have c2 := h.c2
  clear h
  unfold pp
  go_enter Try.func13, Try.ntmps13
  go_wp2
  go_ret
  exact ⟨rfl, rfl⟩
end Go.Proofs.Ytnigmfjghapfgaa
