/-
  The contract of the loom's Run; no condition beyond those that each theorem states.
-/
import Derived.Test.YtamgngmbbbegpaaPicks1
namespace Go.Proofs.Ytamgngmbbbegpaa
open Go.RowKit Go.Rb
attribute [local irreducible] Go.wpQuiet

/-- The pick of the i-th step. -/
def pk (ps : List Int) (i : Nat) : Int := if i < ps.length then ps.getD i 0 else (i : Int) - (ps.length : Int)
/-- What is taken after i steps. -/
def runTk (js : List Jb) (ps : List Int) (n : Nat) (tk : List Int) : Nat → List Int
  | 0 => tk
  | i + 1 => incO (runTk js ps n tk i) (pickO js (runTk js ps n tk i) n (pk ps i))
def Stop (js : List Jb) (ps : List Int) (n : Nat) (tk : List Int) (i : Nat) : Prop :=
  pickO js (runTk js ps n tk i) n (pk ps i) = none ∧ ∀ j, j < i → pickO js (runTk js ps n tk j) n (pk ps j) ≠ none
theorem Stop.same {js : List Jb} {ps : List Int} {n : Nat} {tk : List Int} {i j : Nat} (h : Stop js ps n tk i) (h' : Stop js ps n tk j) : i = j := by
  rcases Nat.lt_trichotomy i j with e | e | e
  · exact absurd h.1 (h'.2 i e)
  · exact e
  · exact absurd h'.1 (h.2 j e)

/-- What was taken, in c steps, by tasks that have no more than 50. -/
structure Rn (n : Nat) (tk : List Int) (c : Nat) : Prop where
  len : tk.length = n
  bd : ∀ j, j < n → 0 ≤ tk.getD j 0 ∧ tk.getD j 0 ≤ 50
  sum : tk.sum = (c : Int)
theorem sum_set : ∀ (tk : List Int) (x : Nat), x < tk.length → (tk.set x (tk.getD x 0 + 1)).sum = tk.sum + 1
  | [], x, h => absurd h (by simp)
  | t :: tk, 0, _ => by simp; omega
  | t :: tk, x + 1, h => by
    have := sum_set tk x (by simpa using h)
    simp only [List.set_cons_succ, List.sum_cons, List.getD_cons_succ, this]
    omega
theorem sum_le : ∀ (tk : List Int), (∀ j, j < tk.length → tk.getD j 0 ≤ 50) → tk.sum ≤ 50 * (tk.length : Int)
  | [], _ => by simp
  | t :: tk, h => by
    have h0 := h 0 (by simp)
    have h1 := sum_le tk (fun j hj => by have := h (j + 1) (by simpa using hj); simpa using this)
    simp at h0
    simp only [List.sum_cons, List.length_cons]
    omega
theorem Rn.le {n : Nat} {tk : List Int} {c : Nat} (h : Rn n tk c) (hn : n ≤ 10) : c ≤ 500 := by
  have := sum_le tk (fun j hj => (h.bd j (by rw [← h.len]; exact hj)).2)
  rw [h.sum, h.len] at this
  omega
theorem Rn.zero (n : Nat) : Rn n (List.replicate n 0) 0 := by
  refine ⟨by simp, fun j hj => ?_, ?_⟩
  · rw [List.getD_eq_getElem?_getD, List.getElem?_replicate, if_pos hj]
    exact ⟨Int.le_refl 0, by decide⟩
  · induction n with
    | zero => rfl
    | succ n ih => rw [List.replicate_succ, List.sum_cons, ih]; rfl
theorem Rn.sm {n : Nat} {tk : List Int} {c : Nat} {js : List Jb} (h : Rn n tk c) (hs : smallP js) (hl : js.length = n) : Sm js tk := by
  intro j hj
  obtain ⟨h1, h2, h3⟩ := hs.2 j hj
  have := h.bd j (by omega)
  omega
theorem Rn.next {n : Nat} {tk : List Int} {c x : Nat} {js : List Jb} (h : Rn n tk c) (hs : smallP js) (hl : js.length = n) (hx : x < n) (hr : readyP js tk x) : Rn n (inc tk x) (c + 1) := by
  have hst := (hs.2 x (by omega)).1
  have hov : tk.getD x 0 < (js.getD x default).st := by have := hr.1; unfold overP at this; omega
  refine ⟨by unfold inc; rw [List.length_set]; exact h.len, fun j hj => ?_, ?_⟩
  · unfold inc
    have := h.bd j hj
    rw [List.getD_eq_getElem?_getD, List.getElem?_set]
    by_cases e : x = j
    · subst e
      rw [if_pos rfl, if_pos (by rw [h.len]; exact hj)]
      show 0 ≤ _ + 1 ∧ _ + 1 ≤ _
      omega
    · rw [if_neg e, ← List.getD_eq_getElem?_getD]
      exact this
  · unfold inc
    rw [sum_set tk x (by rw [h.len]; exact hx), h.sum]
    omega
theorem runTk_rn {js : List Jb} {ps : List Int} {n : Nat} {tk : List Int} {c : Nat} (h : Rn n tk c) (hs : smallP js) (hl : js.length = n) : ∀ i, (∀ j, j < i → pickO js (runTk js ps n tk j) n (pk ps j) ≠ none) → Rn n (runTk js ps n tk i) (c + i)
  | 0, _ => h
  | i + 1, hno => by
    have ih := runTk_rn (ps := ps) h hs hl i (fun j hj => hno j (by omega))
    cases ho : pickO js (runTk js ps n tk i) n (pk ps i) with
    | none => exact absurd ho (hno i (by omega))
    | some x =>
      obtain ⟨h1, h2⟩ := pick_lt ho
      have := ih.next hs hl h1 h2
      show Rn n (incO (runTk js ps n tk i) (pickO js (runTk js ps n tk i) n (pk ps i))) _
      rw [ho]
      exact this

section
variable {w w' : World} {B : Nat} {S L T : Nat → Prop} {lp sp : Nat} {J : Option Addr} {n cj : Nat} {tv lv tnv : Value} {tb : Nat → Nat} {m : Nat} {js : List Jb} {tk : List Int} {tn : List Nat}
set_option maxRecDepth 20000 in
set_option maxHeartbeats 4000000 in
theorem lRun_any (h : LmA w B S L lp sp J n cj tv lv tnv tb n js tk tn) (hs : smallP js) {c : Nat} (hr : Rn n tk c) (htn : tn.length ≤ 1000) (P : Option Addr) (np cp : Nat) (ps : List Int) (hP : Rd w B 1 P np (ps.map iV)) (hcp : np ≤ cp) (hnp : np ≤ 1000) :
    Calls Try.prog 14 #[pp lp, .slice P np cp] w fun e w' => ∃ i : Nat, e = .returned (.int .i64 (i : Int)) ∧ Stop js ps n tk i ∧ ∃ L' tnv' tn', LmA w' B S L' lp sp J n cj tv lv tnv' tb n js (runTk js ps n tk i) tn' ∧ tn'.length = tn.length + i ∧ (∀ k, L' k → L k ∨ w.heap.size ≤ k) ∧ Only (fun k => S k ∨ L k) w w' := by
  have hn : n ≤ 10 := by have := hs.1; have := h.sa.jl; omega
  have HJL := Lib.hid h.sa.jl
  have HH := Lib.hid h
  have HS := Lib.hid hs
  have HR := Lib.hid hr
  have HP := Lib.hid hP
  have HPL := Lib.hid (show ps.length = np by simpa using hP.1)
  clear h hs hr hP
  unfold pp
  go_enter Try.func14, Try.ntmps14
  go_wp2_with fail
  go_loopw [5, 6] (fun cv iv wr => ∃ (i : Nat) (L' : Nat → Prop) (tnv' : Value) (tn' : List Nat), i ≤ 500 ∧ cv = .int .i64 i ∧ iv = .int .i64 i ∧ Hid (∀ j, j < i → pickO js (runTk js ps n tk j) n (pk ps j) ≠ none) ∧
    LmA wr B S L' lp sp J n cj tv lv tnv' tb n js (runTk js ps n tk i) tn' ∧ Hid (tn'.length = tn.length + i) ∧ Hid (∀ k, L' k → L k ∨ w.heap.size ≤ k) ∧ Only (fun k => S k ∨ L k) w wr) (fun cv _ _ => 501 - (intOf cv).toNat)
  case atStart => exact ⟨0, _, _, tn, by omega, rfl, rfl, fun j hj => by omega, HH.out, rfl, fun k hk => .inl hk, Only.refl _ _⟩
  case round =>
    obtain ⟨i, L', tnv', tn', hi, rfl, rfl, hno, hh, htn', hL', hO⟩ := hrel
    have HA := Lib.hid hh
    have HO := Lib.hid hO
    have HRI := Lib.hid (runTk_rn (ps := ps) HR.out HS.out HJL.out i hno.out)
    have j0 : (i : Int) < 100000 := by omega
    have HST := Lib.hid (lStep_any HA.out (HRI.out.sm HS.out HJL.out) (by omega) (by have := htn'.out; omega) (pk ps i))
    have HN1 : Hid (runTk js ps n tk (i + 1) = incO (runTk js ps n tk i) (pickO js (runTk js ps n tk i) n (pk ps i))) := rfl
    have HPK : Hid (pk ps i = if i < ps.length then ps.getD i 0 else (i : Int) - (ps.length : Int)) := rfl
    rw [HPL.out] at HPK
    have HRN2 : Hid (∀ x, pickO js (runTk js ps n tk i) n (pk ps i) = some x → i + 1 ≤ 500) := fun x hx => by
      obtain ⟨h1, h2⟩ := pick_lt hx
      have := (HRI.out.next HS.out HJL.out h1 h2).le hn
      omega
    have HSX : Hid (pickO js (runTk js ps n tk i) n (pk ps i) = none → Stop js ps n tk i) := fun h => ⟨h, hno.out⟩
    have HNX : Hid (pickO js (runTk js ps n tk i) n (pk ps i) ≠ none → ∀ j, j < i + 1 → pickO js (runTk js ps n tk j) n (pk ps j) ≠ none) := fun h j hj => by
      by_cases e : j = i
      · subst e; exact h
      · exact hno.out j (by omega)
    have HSU : Hid (∀ k, S k ∨ L' k → k < w.heap.size → S k ∨ L k) := fun k hk hlt => by
      rcases hk with hk | hk
      · exact .inl hk
      · rcases hL'.out k hk with h | h
        · exact .inr h
        · omega
    clear hh hO hno
    generalize hp : pk ps i = p at *
    have HPE := Lib.hid hp
    clear hp
    obtain ⟨o, ho⟩ : ∃ o, pickO js (runTk js ps n tk i) n p = o := ⟨_, rfl⟩
    rw [ho] at HST HN1 HRN2 HSX HNX
    clear ho
    unfold pp at HST
    have hsz0 := HO.out.size
    by_cases hlt : i < np
    · have j1 : (i : Int) < (np : Int) := by omega
      have hbd : Below B w wr := HO.out.below HH.out.sa.hB (fun k hk => hk.elim (HH.out.sa.sB k) (HH.out.lB k))
      obtain ⟨pb, po, rfl, -, hcell⟩ := (HP.out.below hbd).2 (by omega)
      have x0 := hcell i (by omega)
      rw [List.getElem?_map, List.getElem?_eq_getElem (by rw [HPL.out]; exact hlt)] at x0
      have hpe : p = ps[i]'(by rw [HPL.out]; exact hlt) := by
        rw [HPK.out, if_pos hlt, List.getD_eq_getElem?_getD, List.getElem?_eq_getElem (by rw [HPL.out]; exact hlt)]; rfl
      rw [← hpe] at x0
      have x1 : wr.cell? ⟨pb, po + i, none⟩ = some (.int .i64 p) := x0
      clear hcell x0 hpe hbd
      rcases o with _ | x
      · unfold stepV at HST
        go_wp2_with fail
        refine HST.out.mono ?_
        rintro e2 w2 ⟨rfl, L2, tnv2, ha2, hL2, hO2⟩
        have HA2 := Lib.hid ha2
        have HO2 := Lib.hid hO2
        have HL2 := Lib.hid hL2
        clear ha2 hL2 hO2
        go_wp2_with fail
        go_ret
        exact ⟨i, rfl, HSX.out (by simp), L2, tnv2, tn', HA2.out, htn'.out, fun k hk => (HL2.out k hk).elim (hL'.out k) (fun h => .inr (Nat.le_trans hsz0 h)), HO.out.trans HO2.out fun k hk hh => HSU.out k hh hk⟩
      · unfold stepV at HST
        go_wp2_with fail
        refine HST.out.mono ?_
        rintro e2 w2 ⟨rfl, L2, tnv2, ha2, hL2, hO2⟩
        have HA2 := Lib.hid ha2
        have HO2 := Lib.hid hO2
        have HL2 := Lib.hid hL2
        clear ha2 hL2 hO2
        have hi2 := HRN2.out x rfl
        go_wp2_with fail
        go_roundw
        case rel => exact ⟨i + 1, L2, tnv2, tn' ++ [x], hi2, by go_num, by go_num, HNX.out (by simp), by rw [HN1.out]; exact HA2.out, (by show (tn' ++ [x]).length = _; have := htn'.out; simp; omega), (fun k hk => (HL2.out k hk).elim (hL'.out k) (fun h => .inr (Nat.le_trans hsz0 h))), HO.out.trans HO2.out fun k hk hh => HSU.out k hh hk⟩
        case measure => simp [intOf]; omega
    · have j1 : ¬ (i : Int) < (np : Int) := by omega
      have hpe : (i : Int) - (np : Int) = p := by rw [HPK.out, if_neg hlt]
      rcases o with _ | x
      · unfold stepV at HST
        go_wp2_with fail
        refine HST.out.mono ?_
        rintro e2 w2 ⟨rfl, L2, tnv2, ha2, hL2, hO2⟩
        have HA2 := Lib.hid ha2
        have HO2 := Lib.hid hO2
        have HL2 := Lib.hid hL2
        clear ha2 hL2 hO2
        go_wp2_with fail
        go_ret
        exact ⟨i, rfl, HSX.out (by simp), L2, tnv2, tn', HA2.out, htn'.out, fun k hk => (HL2.out k hk).elim (hL'.out k) (fun h => .inr (Nat.le_trans hsz0 h)), HO.out.trans HO2.out fun k hk hh => HSU.out k hh hk⟩
      · unfold stepV at HST
        go_wp2_with fail
        refine HST.out.mono ?_
        rintro e2 w2 ⟨rfl, L2, tnv2, ha2, hL2, hO2⟩
        have HA2 := Lib.hid ha2
        have HO2 := Lib.hid hO2
        have HL2 := Lib.hid hL2
        clear ha2 hL2 hO2
        have hi2 := HRN2.out x rfl
        go_wp2_with fail
        go_roundw
        case rel => exact ⟨i + 1, L2, tnv2, tn' ++ [x], hi2, by go_num, by go_num, HNX.out (by simp), by rw [HN1.out]; exact HA2.out, (by show (tn' ++ [x]).length = _; have := htn'.out; simp; omega), (fun k hk => (HL2.out k hk).elim (hL'.out k) (fun h => .inr (Nat.le_trans hsz0 h))), HO.out.trans HO2.out fun k hk hh => HSU.out k hh hk⟩
        case measure => simp [intOf]; omega

set_option maxRecDepth 20000 in
set_option maxHeartbeats 2000000 in
theorem lStep_none (h : LmA w B S L lp sp J n cj tv lv tnv tb n js tk tn) (hm : Sm js tk) (hn : n ≤ 1000) (p : Int) (h0 : (listP js tk n).length = 0) :
    Calls Try.prog 11 #[pp lp, .int .i64 p] w fun e w' => e = .returned (.tuple #[.int .i64 0, .bool false]) ∧ Below w.heap.size w w' := by
  have HL := Lib.hid (lReady_any h hm hn)
  rw [h0] at HL
  clear h hm h0
  unfold pp at HL ⊢
  go_enter Try.func11, Try.ntmps11
  go_wp2_with fail
  refine HL.out.mono ?_
  rintro e1 w1 ⟨v, rfl, hv, hb, hk⟩
  obtain ⟨A, c, rfl, -, -⟩ := hv.len_
  have HB := Lib.hid hb
  clear hv hb hk
  go_wp2_with fail
  go_ret2
  exact ⟨rfl, HB.out⟩
set_option maxRecDepth 20000 in
set_option maxHeartbeats 2000000 in
theorem lRun_none (h : LmA w B S L lp sp J n cj tv lv tnv tb n js tk tn) (hm : Sm js tk) (hn : n ≤ 1000) (h0 : (listP js tk n).length = 0) :
    Calls Try.prog 14 #[pp lp, .slice none 0 0] w fun e w' => e = .returned (.int .i64 0) ∧ Below w.heap.size w w' := by
  have HST := Lib.hid (fun p => lStep_none h hm hn p h0)
  clear h hm h0
  unfold pp at HST ⊢
  go_enter Try.func14, Try.ntmps14
  go_wp2_with fail
  go_loopw [5, 6] (fun cv iv wr => cv = .int .i64 0 ∧ iv = .int .i64 0 ∧ w = wr) (fun _ _ _ => 0)
  case atStart => exact ⟨rfl, rfl, rfl⟩
  case round =>
    obtain ⟨rfl, rfl, rfl⟩ := hrel
    go_wp2_with fail
    refine (HST.out _).mono ?_
    rintro e2 w2 ⟨rfl, hb⟩
    have HB := Lib.hid hb
    clear hb
    go_wp2_with fail
    go_ret
    exact ⟨rfl, HB.out⟩
end
end Go.Proofs.Ytamgngmbbbegpaa
