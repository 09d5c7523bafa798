/-
  The contract of the document's Pick; no condition beyond those that each theorem states.
-/
import Derived.Test.YtamgngmbbbegpaaLoom2
namespace Go.Proofs.Ytamgngmbbbegpaa
open Go.RowKit Go.Rb
attribute [local irreducible] Go.wpQuiet

/-- Which of l, by a pick. -/
def pickK (p : Int) (l : Nat) : Nat := (p % (l : Int)).toNat
theorem pickK_lt (p : Int) (l : Nat) (h : 0 < l) : pickK p l < l := by
  unfold pickK
  have h1 := Int.emod_nonneg p (show (l : Int) ≠ 0 by omega)
  have h2 := Int.emod_lt_of_pos p (show (0 : Int) < (l : Int) by omega)
  omega
theorem pickK_rem (p : Int) (l : Nat) (h : 0 < l) : (0 ≤ p.tmod (l : Int) ∧ p.tmod (l : Int) = (pickK p l : Int)) ∨ (p.tmod (l : Int) < 0 ∧ p.tmod (l : Int) + (l : Int) = (pickK p l : Int) ∧ 0 < pickK p l) := by
  unfold pickK
  have h1 := Int.emod_nonneg p (show (l : Int) ≠ 0 by omega)
  have h2 := Int.emod_lt_of_pos p (show (0 : Int) < (l : Int) by omega)
  rw [Int.toNat_of_nonneg h1, Int.tmod_eq_emod]
  split
  · left; omega
  · rename_i hd
    have h3 : p % (l : Int) ≠ 0 := fun e => hd (.inr (Int.dvd_of_emod_eq_zero e))
    right; omega
theorem rem_bd (p : Int) (l : Nat) (h : 0 < l) : -(l : Int) < p.tmod (l : Int) ∧ p.tmod (l : Int) < (l : Int) := by
  have h3 := pickK_lt p l h
  rcases pickK_rem p l h with ⟨h1, h2⟩ | ⟨h1, h2, h4⟩ <;> omega
/-- Whose step; and what is taken then. -/
def pickO (js : List Jb) (tk : List Int) (n : Nat) (p : Int) : Option Nat :=
  if (listP js tk n).length = 0 then none else some ((listP js tk n).getD (pickK p (listP js tk n).length) 0)
def inc (tk : List Int) (x : Nat) : List Int := tk.set x (tk.getD x 0 + 1)
def ofO : Option Nat → Int
  | none => -1
  | some x => (x : Int)
def incO (tk : List Int) : Option Nat → List Int
  | none => tk
  | some x => inc tk x
theorem pick_lt {js : List Jb} {tk : List Int} {n x : Nat} {p : Int} (h : pickO js tk n p = some x) : x < n ∧ readyP js tk x := by
  unfold pickO at h
  split at h
  · cases h
  · rename_i h0
    injection h with h
    have hk := pickK_lt p _ (Nat.pos_of_ne_zero h0)
    rw [List.getD_eq_getElem?_getD, List.getElem?_eq_getElem hk] at h
    subst h
    exact listP_lt (List.getElem_mem hk)

section
variable {w w' : World} {B : Nat} {S T : Nat → Prop} {sp : Nat} {J : Option Addr} {n cj : Nat} {tv : Value} {js : List Jb} {tk : List Int}
theorem StA.put (h : StA w B S sp J n cj tv js tk) {g off cap x : Nat} (hv : tv = .slice (some ⟨g, off, none⟩) n cap) (hx : x < n) (z : Int) :
    StA (w.setCell ⟨g, off + x, none⟩ (.int .i64 z)) B S sp J n cj tv js (tk.set x z) ∧ Only S w (w.setCell ⟨g, off + x, none⟩ (.int .i64 z)) := by
  obtain ⟨g', o', c', e, -, -, hg, hne⟩ := h.tat hx
  rw [hv] at e
  simp only [Value.slice.injEq, Option.some.injEq, Addr.mk.injEq, and_true, true_and] at e
  obtain ⟨⟨rfl, rfl⟩, rfl⟩ := e
  have hO : Only S w (w.setCell ⟨g, off + x, none⟩ (.int .i64 z)) := (Only.refl S w).setCell (p := ⟨g, off + x, none⟩) (fun _ => hg) _
  have hO2 : Only (fun k => k = g) w (w.setCell ⟨g, off + x, none⟩ (.int .i64 z)) := (Only.refl (fun k => k = g) w).setCell (p := ⟨g, off + x, none⟩) (fun _ => rfl) _
  refine ⟨⟨h.sb.far (p := ⟨g, off + x, none⟩) (Ne.symm hne) _, h.jo.only hO h.hB (fun k hk hh => by have := h.sB k hh; omega), h.jl, h.jc, ?_, by rw [List.length_set]; exact h.tl, h.st, h.sv, fun k hk => Nat.lt_of_lt_of_le (h.lt k hk) hO.size, h.sB, Nat.le_trans h.hB hO.size⟩, hO⟩
  have := h.ok
  subst hv
  have := Own.store this x (by omega) (.int .i64 z)
  rw [List.map_set]
  exact this

theorem sm_inc (hm : Sm js tk) (x : Nat) (hz : tk.getD x 0 + 1 ≤ 1000000) (hl : tk.length = js.length) : Sm js (inc tk x) := by
  intro i hi
  obtain ⟨h1, h2, h3, h4⟩ := hm i hi
  refine ⟨h1, h2, ?_⟩
  unfold inc
  rw [List.getD_eq_getElem?_getD, List.getElem?_set]
  by_cases e : x = i
  · subst e
    rw [if_pos rfl, if_pos (by omega)]
    show 0 ≤ _ + 1 ∧ _ + 1 ≤ _
    omega
  · rw [if_neg e, ← List.getD_eq_getElem?_getD]
    exact ⟨h3, h4⟩

set_option maxRecDepth 20000 in
set_option maxHeartbeats 4000000 in
theorem pick_any (h : StA w B S sp J n cj tv js tk) (hm : Sm js tk) (hn : n ≤ 1000) (p : Int) :
    Calls Try.prog 15 #[pp sp, .int .i64 p] w fun e w' => e = .returned (.int .i64 (ofO (pickO js tk n p))) ∧ StA w' B S sp J n cj tv js (incO tk (pickO js tk n p)) ∧ Only S w w' := by
  have HL := Lib.hid (list_any h hm hn)
  have HH := Lib.hid h
  have hll := listP_len js tk n
  have hlt := fun i => @listP_lt js tk n i
  have HM := Lib.hid hm
  clear h hm
  have HP : Hid (pickO js tk n p = if (listP js tk n).length = 0 then none else some ((listP js tk n).getD (pickK p (listP js tk n).length) 0)) := rfl
  generalize listP js tk n = xs at *
  by_cases h0 : xs.length = 0
  · rw [HP.out, if_pos h0]
    rw [h0] at HL
    clear hll hlt h0
    unfold pp at HL ⊢
    go_enter Try.func15, Try.ntmps15
    go_wp2_with fail
    refine HL.out.mono ?_
    rintro e1 w1 ⟨v, rfl, hv, hb, hk⟩
    obtain ⟨A, c, rfl, -, -⟩ := hv.len_
    have HB := Lib.hid hb
    clear hv hb hk
    go_wp2_with fail
    go_ret
    exact ⟨rfl, HH.out.below HB.out, (Only.of_below HB.out).mono fun k hk hh => by omega⟩
  · rw [HP.out, if_neg h0]
    obtain ⟨l, hl⟩ : ∃ l, xs.length = l := ⟨_, rfl⟩
    rw [hl] at HL hll h0 ⊢
    have hk := pickK_lt p l (by omega)
    have hrm := pickK_rem p l (by omega)
    have hrb := rem_bd p l (by omega)
    generalize pickK p l = k at *
    have hkx : xs[k]? = some (xs.getD k 0) := by rw [List.getD_eq_getElem?_getD, List.getElem?_eq_getElem (by omega)]; rfl
    have hxn := hlt (xs.getD k 0) (List.mem_of_getElem? hkx)
    generalize xs.getD k 0 = x at *
    have HKX := Lib.hid hkx
    have hx := hxn.1
    have HLX := Lib.hid hl
    clear hlt hxn hkx hl
    have hl0 : ¬ (l : Int) = 0 := by omega
    have hlm : ¬ (l : Int) = -1 := by omega
    obtain ⟨r, hr⟩ : ∃ r, p.tmod (l : Int) = r := ⟨_, rfl⟩
    rw [hr] at hrm hrb
    have HT := Lib.hid (HM.out x (by rw [HH.out.jl]; exact hx))
    have hof : ofO (some x) = (x : Int) := rfl
    rw [hof]
    clear hof
    have HI : Hid (incO tk (some x) = tk.set x (tk.getD x 0 + 1)) := rfl
    generalize incO tk (some x) = tk' at *
    obtain ⟨hz0, hz1⟩ := HT.out.2.2
    obtain ⟨z, hz⟩ : ∃ z, tk.getD x 0 = z := ⟨_, rfl⟩
    rw [hz] at hz0 hz1 HI
    have HZ := Lib.hid hz
    clear hz HP
    have hzz : (z + 1) ≤ 9223372036854775807 := by omega
    unfold pp at HL ⊢
    go_enter Try.func15, Try.ntmps15
    go_wp2_with fail
    refine HL.out.mono ?_
    rintro e1 w1 ⟨v, rfl, hv, hb, hkf⟩
    obtain ⟨gl, ol, cl, rfl, hcl, -, hgl, hc, -⟩ := hv.form (by omega)
    have kc := hc k (by omega)
    rw [List.getElem?_map, HKX.out] at kc
    have kc2 : w1.cell? ⟨gl, ol + k, none⟩ = some (.int .i64 (x : Int)) := kc
    have HB := Lib.hid hb
    have HS1 := Lib.hid (HH.out.below hb)
    have c1 := HS1.out.c1
    obtain ⟨g, off, cap, rfl, t0, hfr, hSg, -⟩ := HS1.out.tat hx
    clear hv hb hc kc
    have hgne : gl ≠ g := fun e => by have := hkf gl rfl; have := HH.out.lt g hSg; omega
    have hgne' : g ≠ gl := Ne.symm hgne
    clear hkf
    have HPU := Lib.hid (HS1.out.put rfl hx (z + 1))
    rw [HZ.out] at t0
    rcases hrm with ⟨h1, h2⟩ | ⟨h1, h2, -⟩
    · subst h2
      go_wp2_with fail
      go_region
      go_wp2_with fail
      go_ret
      refine ⟨rfl, ?_, ?_⟩
      · rw [HI.out]; exact HPU.out.1.below (Below.refl _ _).drew
      · exact ((Only.of_below HB.out).mono fun k hk hh => absurd hh (by omega)).trans HPU.out.2.drew fun _ _ h => h
    · go_wp2_with fail
      go_region
      go_wp2_with fail
      go_ret
      refine ⟨rfl, ?_, ?_⟩
      · rw [HI.out]; exact HPU.out.1.below (Below.refl _ _).drew
      · exact ((Only.of_below HB.out).mono fun k hk hh => absurd hh (by omega)).trans HPU.out.2.drew fun _ _ h => h
end
end Go.Proofs.Ytamgngmbbbegpaa
