/-
  The document's example for layer 10; no condition beyond those that each theorem states.
-/
import Derived.Test.YtgfienopijlnkaaComp
import Derived.Test.YtgfienopijlnkaaParse
namespace Go.Proofs.Ytgfienopijlnkaa
open Go.RowKit Go.Rb
attribute [local irreducible] Go.wpQuiet

def GoodTk (n : Nat) (p : Tk × Nat) : Prop := p.2 ≤ n ∧ (p.2 ≠ 0 → okTk p.1)
theorem goodTk_ite {n : Nat} {c : Prop} [Decidable c] {p q : Tk × Nat} (hp : c → GoodTk n p) (hq : GoodTk n q) : GoodTk n (if c then p else q) := by
  split
  · exact hp ‹_›
  · exact hq
theorem tok1_bd (x : List Int) (hx : x ≠ []) : (tok1 x).2 ≤ x.length ∧ ((tok1 x).2 ≠ 0 → okTk (tok1 x).1) := by
  cases x with
  | nil => exact absurd rfl hx
  | cons a x =>
    have hb := brc_bd x
    show GoodTk (a :: x).length (tok1 (a :: x))
    have hz : GoodTk (a :: x).length (zTk, 0) := ⟨Nat.zero_le _, fun h => absurd rfl h⟩
    have h1 : ∀ t, okTk t → GoodTk (a :: x).length (t, 1) := fun t h => ⟨by simp, fun _ => h⟩
    rw [tok1]
    refine goodTk_ite (fun _ => h1 _ (by simp [okTk])) ?_
    refine goodTk_ite (fun _ => h1 _ (by simp [okTk])) ?_
    refine goodTk_ite (fun _ => h1 _ (by simp [okTk])) ?_
    refine goodTk_ite (fun _ => h1 _ (by simp [okTk])) ?_
    refine goodTk_ite (fun _ => h1 _ (by simp [okTk])) ?_
    refine goodTk_ite (fun _ => h1 _ (by simp [okTk])) ?_
    refine goodTk_ite (fun _ => h1 _ (by simp [okTk])) ?_
    refine goodTk_ite (fun _ => h1 _ (by simp [okTk])) ?_
    refine goodTk_ite (fun _ => goodTk_ite (fun _ => hz) ⟨by simp only [List.length_cons]; omega, fun _ => by simp [okTk]⟩) ?_
    refine goodTk_ite (fun _ => h1 _ (by simp [okTk])) ?_
    refine goodTk_ite (fun _ => hz) ?_
    refine goodTk_ite (fun _ => hz) ?_
    exact h1 _ (by simp [okTk])
theorem lexer1 : Lexer (fun x p => p = tok1 x) (fun x => ∀ y ∈ x, y ≠ 91 ∧ y ≠ 92) where
  call := by
    intro x A n c B W hx hok hr hB hc hn
    cases x with
    | nil => exact absurd rfl hx
    | cons a x =>
      have h := hok a (by simp)
      exact (token_any a x A n c B W hr hB hc hn h.1 h.2).mono fun e w' h => ⟨_, rfl, h⟩
  bd := by
    rintro x p hx rfl
    exact tok1_bd x hx
  drop := fun x k h y hy => h y (List.mem_of_mem_drop hy)
def tksA : List Tk := [⟨0, 0, [(97, 97)], 0, 0⟩, ⟨2, 0, [], 3, 3⟩, ⟨0, 0, [(98, 98)], 0, 0⟩, ⟨2, 0, [], 0, -1⟩]
def ndA : Nd := .mk 4 [] 0 0 [.mk 6 [] 3 3 [.mk 1 [(97, 97)] 0 0 []], .mk 6 [] 0 (-1) [.mk 1 [(98, 98)] 0 0 []]]
theorem ptsA : pts (⟨#[97, 123, 51, 125, 98, 42]⟩ : ByteArray).data.toList = some [97, 123, 51, 125, 98, 42] := by decide +kernel
theorem lexA (f : Nat) (hf : 6 ≤ f) : lexF tok1 f [97, 123, 51, 125, 98, 42] [] = some tksA := by
  obtain ⟨k, rfl⟩ : ∃ k, f = k + 6 := ⟨f - 6, by omega⟩
  rfl
theorem treeA : treeL (tksA.length + 2) tksA 0 0 [] [] false = some ndA := by rfl
theorem okA : OkN ndA := by
  have hc : ∀ r, OkN (.mk 1 [(r, r)] 0 0 []) := fun r => .mk _ _ _ _ _ (by omega) (by omega) (by omega) (by simp) (by simp) (by simp)
  refine .mk _ _ _ _ _ (by omega) (by omega) (by omega) (by simp) (by simp) fun k hk => ?_
  rcases (by simpa using hk : k = _ ∨ k = _) with rfl | rfl
  · exact .mk _ _ _ _ _ (by omega) (fun _ => ⟨rfl, by omega, by omega, by omega, .inr (by omega)⟩) (by omega) (by simp) (by simp) (by simpa using hc 97)
  · exact .mk _ _ _ _ _ (by omega) (fun _ => ⟨rfl, by omega, by omega, by omega, .inl rfl⟩) (by omega) (by simp) (by simp) (by simpa using hc 98)
theorem nodeA : NodeC ndA := by
  have ok := okA
  have hc : ∀ r, NodeC (.mk 1 [(r, r)] 0 0 []) := fun r => node_step (.mk _ _ _ _ _ (by omega) (by omega) (by omega) (by simp) (by simp) (by simp)) (by simp) (by omega)
  refine node_step ok (fun k hk => ?_) (by omega)
  cases ok with
  | mk _ _ _ _ _ _ _ _ _ _ hok =>
    have := hok k hk
    rcases (by simpa using hk : k = _ ∨ k = _) with rfl | rfl
    · exact node_step this (by simpa using hc 97) (by omega)
    · exact node_step this (by simpa using hc 98) (by omega)
theorem lenA : lenC ndA = 6 := by decide +kernel
theorem progA : (nodeP ndA []).length = 6 := by decide +kernel
set_option maxRecDepth 20000 in
set_option maxHeartbeats 1000000 in
theorem awake_any (w : World) : Calls Try.prog 4 #[] w fun e w' => e = .returned (.bool true) ∧ Below w.heap.size w w' := by
  have HP : Hid (Calls Try.prog 7 #[.string ⟨#[97, 123, 51, 125, 98, 42]⟩] w fun e w' => ∃ v, e = .returned (.tuple #[v, .int .i64 0]) ∧ Below w.heap.size w w' ∧ NdV w' (fun k => w.heap.size ≤ k) v ndA) :=
    (parse_any lexer1 ⟨#[97, 123, 51, 125, 98, 42]⟩ (fun rs h => by rw [ptsA] at h; obtain rfl := Option.some.inj h; decide) w).mono fun e w' h => h.fn (fun x p h => h) (by decide) ptsA lexA treeA (fun l x h => (h.bd lexer1).1)
  go_enter Try.func4, Try.ntmps4
  go_wp2_with fail
  refine HP.out.mono ?_
  rintro e1 w1 ⟨v, rfl, hb1, hv⟩
  obtain ⟨x0, A1, n1, m1, x2, x3, A4, n4, m4, rfl⟩ := hv.parts
  have HB1 := Lib.hid hb1
  have hs1 := hb1.size
  have HC := Lib.hid (comp_any okA nodeA (hv.under (below_al (Below.refl w1.heap.size w1) (.cells #[.int .i64 x0, .slice A1 n1 m1, .int .i64 x2, .int .i64 x3, .slice A4 n4 m4] 28))) (fun _ => by rw [progA]; omega))
  have HL := Lib.hid (fun W (hW : Below w1.heap.size w1 W) => len_any okA W _ _ (hv.under hW))
  unfold ndV at HC HL ⊢
  clear hb1 hv HP
  go_wp2_with fail
  refine HC.out.mono ?_
  rintro e2 w2 ⟨hb2, hr⟩
  obtain ⟨hbig, -⟩ | ⟨-, p, rfl, hp, -⟩ := hr
  · rw [lenA] at hbig; omega
  obtain ⟨svs, -, hO, -⟩ := hp
  obtain ⟨Ap, cp, rfl, -, -⟩ := hO.len_
  have hbx := (Blk.new w1 28 #[.int .i64 x0, .slice A1 n1 m1, .int .i64 x2, .int .i64 x3, .slice A4 n4 m4]).below hb2 (by simp)
  have hb12 := below_trans (below_al (Below.refl w1.heap.size w1) (.cells #[.int .i64 x0, .slice A1 n1 m1, .int .i64 x2, .int .i64 x3, .slice A4 n4 m4] 28)) hb2
  have HB2 := Lib.hid (below_trans HB1.out hb12)
  have HL2 := Lib.hid (HL.out w2 hb12)
  have y0 := hbx.cell 0
  have y1 := hbx.cell 1
  have y2 := hbx.cell 2
  have y3 := hbx.cell 3
  have y4 := hbx.cell 4
  simp only [List.getElem?_toArray, List.getElem?_cons_succ, List.getElem?_cons_zero] at y0 y1 y2 y3 y4
  have hlx := hbx.lt
  have hpl : (nodeP ndA [] ++ [(⟨0, [], 0, 0⟩ : Ins)]).length = 7 := by rw [List.length_append, progA]; rfl
  rw [hpl]
  rw [lenA] at HL2
  clear hb2 hbx hb12 hO HC HL hpl
  go_wp2_with fail
  refine HL2.out.mono ?_
  rintro e3 w3 ⟨rfl, hb3⟩
  have HB3 := Lib.hid (below_trans HB2.out hb3)
  clear hb3
  go_wp2_with fail
  go_ret
  exact ⟨rfl, HB3.out⟩
end Go.Proofs.Ytgfienopijlnkaa
