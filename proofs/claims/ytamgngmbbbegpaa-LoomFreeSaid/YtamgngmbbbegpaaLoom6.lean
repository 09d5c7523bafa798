/-
  The contract of the loom's Step; no condition beyond those that each theorem states.
-/
import Derived.Test.YtamgngmbbbegpaaLoom5
namespace Go.Proofs.Ytamgngmbbbegpaa
open Go.RowKit Go.Rb
attribute [local irreducible] Go.wpQuiet

section
variable {w w' : World} {B : Nat} {S L T : Nat → Prop} {lp sp : Nat} {J : Option Addr} {n cj : Nat} {tv lv tnv : Value} {tb : Nat → Nat} {m : Nat} {js : List Jb} {tk : List Int} {tn : List Nat}
theorem own_ne_blk {e t : TypeId} {sz n g : Nat} {v : Value} {xs : List Value} {cs : Array Value} (h : Own w e sz v n xs) (hb : Blk w g t cs) (hne : e ≠ t) : v.ownBlock ≠ some g := by
  intro hk
  rcases h.2 with ⟨rfl, _⟩ | ⟨g', off, cap, cur, rfl, hg, _⟩
  · simp [Value.ownBlock] at hk
  · have e1 : g' = g := by simpa [Value.ownBlock] using hk
    subst e1
    exact Blk.ne_ (t := _) (t' := _) hg hb hne rfl
theorem own_ne' {e1 e2 : TypeId} {s1 s2 n1 n2 : Nat} {v1 v2 : Value} {x1 x2 : List Value} (h1 : Own w e1 s1 v1 n1 x1) (h2 : Own w e2 s2 v2 n2 x2) (hne : e1 ≠ e2) :
    ∀ k, v1.ownBlock = some k → v2.ownBlock ≠ some k := by
  intro k hk hk2
  rcases h1.2 with ⟨rfl, _⟩ | ⟨g, off, cap, cur, rfl, hg, _⟩
  · simp [Value.ownBlock] at hk
  · have e1 : g = k := by simpa [Value.ownBlock] using hk
    subst e1
    exact own_ne_blk h2 (t := e1) (show Blk w g e1 cur from hg) (Ne.symm hne) hk2

theorem LmA.turn (h : LmA w B S L lp sp J n cj tv lv tnv tb m js tk tn) {o : Obj} {w5 : World} {g off c x : Nat}
    (hO : Own w5 3 1 (.slice (some ⟨g, off, none⟩) (tn.length + 1) c) (tn.length + 1) ((tn ++ [x]).map nV)) (hG : (w.alloc o).grownBy w5 tnv.ownBlock) (hat : tnv.ownBlock = some g ∨ g = (w.alloc o).heap.size) :
    LmA (w5.setCell ⟨lp, 1, none⟩ (.slice (some ⟨g, off, none⟩) (tn.length + 1) c)) B S (fun k => L k ∨ k = g) lp sp J n cj tv lv (.slice (some ⟨g, off, none⟩) (tn.length + 1) c) tb m js tk (tn ++ [x]) ∧
    Only L w (w5.setCell ⟨lp, 1, none⟩ (.slice (some ⟨g, off, none⟩) (tn.length + 1) c)) ∧ w5.frozen? ⟨lp, 1, none⟩ = false ∧ w5.cell? ⟨lp, 1, none⟩ = some tnv ∧ (L g ∨ w.heap.size ≤ g) ∧ w5.cell? ⟨lp, 0, none⟩ = some lv ∧ ∀ g', lv.ownBlock = some g' → g' ≠ lp ∧ ∀ j, w5.cell? ⟨g', j, none⟩ = w.cell? ⟨g', j, none⟩ := by
  have h5 : Only (fun k => tnv.ownBlock = some k) w w5 := ((Only.refl _ w).alloc o).grown hG (fun k hk _ => hk)
  have hL5 : Only L w w5 := h5.mono fun k _ hk => h.Lt k hk
  have hL6 : Only L w (w5.setCell ⟨lp, 1, none⟩ (.slice (some ⟨g, off, none⟩) (tn.length + 1) c)) := hL5.setCell (p := ⟨lp, 1, none⟩) (fun _ => h.Ll) _
  have hlb : Blk w5 lp 56 #[lv, tnv] := h.lb.only h5 (own_ne_blk h.tu h.lb (by decide))
  have hsz : w5.heap.size = (w5.setCell ⟨lp, 1, none⟩ (.slice (some ⟨g, off, none⟩) (tn.length + 1) c)).heap.size := by simp [World.setCell]
  have hg5 : g < w5.heap.size := hO.lt rfl
  have hgL : L g ∨ w.heap.size ≤ g := hat.elim (fun e => .inl (h.Lt g e)) (fun e => .inr (by rw [e]; simp))
  refine ⟨⟨h.sa.frame hL6 (fun k hk hh => h.dj k hh hk) (fun k hk hh => by have := h.lB k hh; omega), hlb.set_ 1 _, (h.lo.only h5 (own_ne' h.lo h.tu (by decide))).setCell (p := ⟨lp, 1, none⟩) (own_ne_blk (h.lo.only h5 (own_ne' h.lo h.tu (by decide))) hlb (by decide)) _, fun i hi => ?_, h.mn, ?_, .inl h.Ll, fun k hk => .inl (h.Lv k hk), fun k hk => .inr ?_, fun i hi => .inl (h.Lb i hi), fun k hk => ?_, fun k hk => ?_, fun k hk hs => ?_⟩, hL6, hlb.frozen 1, by rw [hlb.cell]; rfl, hgL, by rw [hlb.cell]; rfl, fun g' hg' => ⟨fun e => own_ne_blk h.lo h.lb (by decide) (e ▸ hg'), fun j => h5.cell (p := ⟨g', j, none⟩) (h.lo.lt hg') (own_ne' h.lo h.tu (by decide) g' hg')⟩⟩
  · have hb := (h.bx i hi).only h5 (own_ne_blk h.tu (h.bx i hi) (by decide))
    exact hb.far (p := ⟨lp, 1, none⟩) (Blk.ne_ hb hlb (by decide)) _
  · rw [List.length_append]
    exact hO.setCell (p := ⟨lp, 1, none⟩) (own_ne_blk hO hlb (by decide)) _
  · have : g = k := by simpa [Value.ownBlock] using hk
    exact this.symm
  · rw [← hsz]
    rcases hk with hk | rfl
    · exact Nat.lt_of_lt_of_le (h.lt k hk) h5.size
    · exact hg5
  · rcases hk with hk | rfl
    · exact h.lB k hk
    · rcases hgL with hk | hk
      · exact h.lB _ hk
      · have := h.sa.hB; omega
  · rcases hk with hk | rfl
    · exact h.dj k hk hs
    · rcases hgL with hk | hk
      · exact h.dj _ hk hs
      · have := h.sa.lt _ hs; omega
theorem LmA.step (h : LmA w B S L lp sp J n cj tv lv tnv tb m js tk tn) {tk' : List Int} (hs : StA w' B S sp J n cj tv js tk') (hO : Only S w w') : LmA w' B S L lp sp J n cj tv lv tnv tb m js tk' tn :=
  ⟨hs, h.lb.only hO (h.dj _ h.Ll), h.lo.only hO fun k hk => h.dj _ (h.Lv k hk), fun i hi => (h.bx i hi).only hO (h.dj _ (h.Lb i hi)), h.mn, h.tu.only hO fun k hk => h.dj _ (h.Lt k hk), h.Ll, h.Lv, h.Lt, h.Lb, fun k hk => Nat.lt_of_lt_of_le (h.lt k hk) hO.size, h.lB, h.dj⟩
end

theorem pick_again (p : Int) (l : Nat) (h : 0 < l) : (p.tmod (l : Int) + (l : Int)).tmod (l : Int) = (pickK p l : Int) := by
  have h3 := pickK_lt p l h
  rcases pickK_rem p l h with ⟨h1, h2⟩ | ⟨h1, h2, h4⟩
  · rw [h2, Int.tmod_eq_emod_of_nonneg (by omega), Int.add_emod_right, Int.emod_eq_of_lt (by omega) (by omega)]
  · rw [h2, Int.tmod_eq_emod_of_nonneg (by omega), Int.emod_eq_of_lt (by omega) (by omega)]

section
variable {w w' : World} {B : Nat} {S L T : Nat → Prop} {lp sp : Nat} {J : Option Addr} {n cj : Nat} {tv lv tnv : Value} {tb : Nat → Nat} {m : Nat} {js : List Jb} {tk : List Int} {tn : List Nat}
def stepV : Option Nat → Value
  | none => .tuple #[.int .i64 0, .bool false]
  | some x => .tuple #[.int .i64 (x : Int), .bool true]
def tnO (tn : List Nat) : Option Nat → List Nat
  | none => tn
  | some x => tn ++ [x]
set_option maxRecDepth 20000 in
set_option maxHeartbeats 4000000 in
theorem lStep_any (h : LmA w B S L lp sp J n cj tv lv tnv tb n js tk tn) (hm : Sm js tk) (hn : n ≤ 1000) (htn : tn.length ≤ 100000) (p : Int) :
    Calls Try.prog 11 #[pp lp, .int .i64 p] w fun e w' => e = .returned (stepV (pickO js tk n p)) ∧ ∃ L' tnv', LmA w' B S L' lp sp J n cj tv lv tnv' tb n js (incO tk (pickO js tk n p)) (tnO tn (pickO js tk n p)) ∧ (∀ k, L' k → L k ∨ w.heap.size ≤ k) ∧ Only (fun k => S k ∨ L k) w w' := by
  obtain ⟨i0, hi0, hz0, hz1, hz2⟩ := info_parts info3
  have HL := Lib.hid (lReady_any h hm hn)
  have HH := Lib.hid h
  have hll := listP_len js tk n
  have hlt := fun i => @listP_lt js tk n i
  have HM := Lib.hid hm
  obtain ⟨At, ct, rfl, -, -⟩ := h.tu.len_
  obtain ⟨Al, cl, rfl, -, -⟩ := h.lo.len_
  clear h hm
  have HP : Hid (pickO js tk n p = if (listP js tk n).length = 0 then none else some ((listP js tk n).getD (pickK p (listP js tk n).length) 0)) := rfl
  generalize listP js tk n = xs at *
  by_cases h0 : xs.length = 0
  · rw [HP.out, if_pos h0]
    rw [h0] at HL
    clear hll hlt h0
    unfold pp at HL ⊢
    go_enter Try.func11, Try.ntmps11
    go_wp2_with fail
    refine HL.out.mono ?_
    rintro e1 w1 ⟨v, rfl, hv, hb, hk⟩
    obtain ⟨A, c, rfl, -, -⟩ := hv.len_
    have HB := Lib.hid hb
    clear hv hb hk
    go_wp2_with fail
    go_ret2
    exact ⟨rfl, _, _, HH.out.below HB.out, fun k hk => .inl hk, (Only.of_below HB.out).mono fun k hk hh => absurd hh (by omega)⟩
  · rw [HP.out, if_neg h0]
    obtain ⟨l, hl⟩ : ∃ l, xs.length = l := ⟨_, rfl⟩
    rw [hl] at HL hll h0 ⊢
    have hk := pickK_lt p l (by omega)
    have hpa := pick_again p l (by omega)
    have hrb := rem_bd p l (by omega)
    generalize pickK p l = k at *
    have hkx : xs[k]? = some (xs.getD k 0) := by rw [List.getD_eq_getElem?_getD, List.getElem?_eq_getElem (by omega)]; rfl
    have hxn := hlt (xs.getD k 0) (List.mem_of_getElem? hkx)
    generalize xs.getD k 0 = x at *
    have HKX := Lib.hid hkx
    have hx := hxn.1
    have hxi : (x : Int) < (n : Int) := by omega
    have HLX := Lib.hid hl
    clear hlt hxn hkx hl HP
    have hl0 : ¬ (l : Int) = 0 := by omega
    have hlm : ¬ (l : Int) = -1 := by omega
    have hlb : ((l : Int) == 0) = false := by rw [beq_eq_false_iff_ne]; omega
    obtain ⟨r, hr⟩ : ∃ r, p.tmod (l : Int) = r := ⟨_, rfl⟩
    rw [hr] at hpa hrb
    obtain ⟨y, hy⟩ : ∃ y, r + (l : Int) = y := ⟨_, rfl⟩
    rw [hy] at hpa
    have hof : stepV (some x) = .tuple #[.int .i64 (x : Int), .bool true] := rfl
    rw [hof]
    clear hof
    have HI : Hid (incO tk (some x) = inc tk x) := rfl
    have HT : Hid (tnO tn (some x) = tn ++ [x]) := rfl
    generalize incO tk (some x) = tk' at *
    generalize tnO tn (some x) = tn' at *
    have hmS := meth_step
    unfold pp at HL ⊢
    go_enter Try.func11, Try.ntmps11
    go_wp2_with fail
    refine HL.out.mono ?_
    rintro e1 w1 ⟨v, rfl, hv, hb, hkf⟩
    obtain ⟨gl, ol, cl', rfl, hcl, -, hgl, hc, -⟩ := hv.form (by omega)
    have kc := hc k (by omega)
    rw [List.getElem?_map, HKX.out] at kc
    have kc2 : w1.cell? ⟨gl, ol + k, none⟩ = some (.int .i64 (x : Int)) := kc
    have HB := Lib.hid hb
    have HS1 := Lib.hid (HH.out.below hb)
    have c1 := HS1.out.c1
    obtain ⟨gt, ot, cl2, e, t0⟩ := HS1.out.iat hx
    simp only [Value.slice.injEq] at e
    obtain ⟨rfl, -, rfl⟩ := e
    have HT0 := Lib.hid t0
    clear hv hb hc kc hkf t0
    go_wp2_with (at_builtin; refine wpList_append_mine _ rfl (.tmp 29) (.tmp 31) _ rfl 3 i0 _ 1 8 Try.underlying23 hi0 hz0 hz1 hz2 rfl (by omega) (.slice At tn.length ct) tn.length (tn.map nV) rfl (by exact HS1.out.tu.alloc _) _ 1 1 [_] rfl rfl (by exact news_push rfl rfl) (by simp [Value.oneCell']) (by omega) (by simp only [maxLen]; omega) (by omega) _ rfl ?_; intro g5 o5 c5 w5 hown5 hgrow5 hat5; have HX5 := Lib.hid (HS1.out.turn (x := x) (by rw [List.map_append]; exact hown5) hgrow5 hat5); have f5 := HX5.out.2.2.1; have d5 := HX5.out.2.2.2.1; have e5 := HX5.out.2.2.2.2.2.1; have g5' := (HX5.out.2.2.2.2.2.2 gt rfl).1; have t5 : w5.cell? ⟨gt, ot + x, none⟩ = some (.iface 51 (.pointer (some ⟨tb x, 0, none⟩))) := ((HX5.out.2.2.2.2.2.2 gt rfl).2 (ot + x)).trans HT0.out; clear hown5 hgrow5 hat5)
    refine (tStep_any HX5.out.1.sa HM.out x hx (HX5.out.1.bx x hx) (fun hh => HX5.out.1.dj _ (HX5.out.1.Lb x hx) hh)).mono ?_
    rintro e2 w2 ⟨rfl, hs2, ho2⟩
    have HF := Lib.hid (HX5.out.1.step hs2 ho2)
    have HO2 := Lib.hid ho2
    clear hs2 ho2
    go_wp2_with fail
    go_ret2
    refine ⟨rfl, _, _, by rw [HI.out, HT.out]; exact HF.out, fun k hk => ?_, ?_⟩
    · rcases hk with hk | rfl
      · exact .inl hk
      · exact HX5.out.2.2.2.2.1.elim .inl fun h => .inr (Nat.le_trans HB.out.size h)
    · have o1 : Only (fun k => S k ∨ L k) w w1 := (Only.of_below HB.out).mono fun k hk hh => absurd hh (by omega)
      exact (o1.trans (HX5.out.2.1.mono fun k _ h => Or.inr h) fun k _ h => h).trans HO2.out fun k _ h => .inl h
end
end Go.Proofs.Ytamgngmbbbegpaa
