/-
  The contracts of the pool's functions Drop and View; no condition beyond those that each theorem states.
-/
import Derived.Test.YtmebpalfjcejoaaPool3
namespace Go.Proofs.Ytmebpalfjcejoaa
open Go.RowKit Go.Rb

/-- The line has grown (where it lies, or elsewhere) and is laid down again. -/
theorem RepA.push {w w' : World} {S S' : Nat → Prop} {p ga : Nat} {lv : Value} {vs : Nat → Value} {s : PS} (h : RepA w S p ga lv vs s) (hg : w.grownBy w' lv.ownBlock) (lv' : Value) (ln : List Nat)
    (ho : Own w' 3 1 lv' ln.length (ln.map nV)) (hs : ∀ k, lv'.ownBlock = some k → S' k) (hS : ∀ k, S k → S' k) (hl : ∀ k, S' k → k < w'.heap.size) :
    RepA (w'.setCell ⟨p, 1, none⟩ lv') S' p ga lv' vs { s with ln := ln } := by
  obtain ⟨cs, hcb, hcs⟩ := h.ab
  have hpb := h.pb.grown hg (fun e => own_ne_blk h.lo h.pb (by decide) e.symm)
  have hcb' := hcb.grown hg (fun e => own_ne_blk h.lo hcb (by decide) e.symm)
  have hbo : ∀ i, i < s.hs.length → Own w' 5 1 (vs i) (s.bs.getD i []).length ((s.bs.getD i []).map bV) := fun i hi => (h.bo i hi).grown hg fun k hk e => own_ne' (h.bo i hi) h.lo (by decide) k hk e
  exact ⟨by simpa using hpb.set_ 1 lv', ⟨cs, hcb'.far (p := ⟨p, 1, none⟩) (Ne.symm h.gap) lv', hcs⟩, h.bl, fun i hi => (hbo i hi).setCell (p := ⟨p, 1, none⟩) (own_ne_blk (hbo i hi) hpb (by decide)) _,
    ho.setCell (p := ⟨p, 1, none⟩) (own_ne_blk ho hpb (by decide)) _, hS _ h.sp, hS _ h.sa, hs, fun i hi k hk => hS _ (h.sb i hi k hk), fun k hk => by simpa [World.setCell] using hl k hk, h.nn, h.nz⟩

set_option maxHeartbeats 2000000 in
theorem drop_any {S : Nat → Prop} {p : Nat} {s : PS} (i : Int) (w : World) (hR : Rep w S p s) (hm : hOf s i < 1000000) (hlen : s.ln.length < 1000000) :
    Calls Try.prog 11 #[pp p, .int .i64 i] w fun e w' => e = .returned (.int .i64 (turnE s i)) ∧ Went w S p (dropS s i) w' := by
  obtain ⟨i0, hi0, hz0, hz1, hz2⟩ := info_parts info3
  obtain ⟨ga, lv, vs, h⟩ := hR
  unfold turnE dropS
  by_cases hh : heldB s i
  · rw [if_pos hh, if_pos hh]
    obtain ⟨k, rfl, hk, h0, hb, -, ht⟩ := held_cases hh
    rw [hb] at hm ⊢
    rw [ht]
    have ch := h.ch hk
    have cb := h.cb hk
    have f1 := h.fa (k * 2)
    have f2 := h.fa (k * 2 + 1)
    have HC := Lib.hid (held_some k w h hk h0)
    by_cases h1 : s.hs.getD k 0 = 1
    · rw [if_pos h1]
      have cb1 : ∀ x, (w.setCell ⟨ga, k * 2 + 1, none⟩ x).cell? ⟨ga, k * 2, none⟩ = some (vs k) := fun x => (setCell_other (by simp) x).trans cb
      have c1 : ∀ x y, ((w.setCell ⟨ga, k * 2 + 1, none⟩ x).setCell ⟨ga, k * 2, none⟩ y).cell? ⟨p, 1, none⟩ = some lv := fun x y => (setCell_other (by simp [Ne.symm h.gap]) y).trans ((setCell_other (by simp [Ne.symm h.gap]) x).trans h.c1)
      have R2 := (h.setHold k 0 hk).setBuf k (by simpa using hk) (.slice none 0 0) [] (Own.nil_ _ _ _) (by simp [Value.ownBlock])
      have O2 : Only S w ((w.setCell ⟨ga, k * 2 + 1, none⟩ (.int .i64 ((0 : Nat) : Int))).setCell ⟨ga, k * 2, none⟩ (.slice none 0 0)) :=
        ((Only.refl S w).setCell (p := ⟨ga, k * 2 + 1, none⟩) (fun _ => h.sa) _).setCell (p := ⟨ga, k * 2, none⟩) (fun _ => h.sa) _
      have hsz : ((w.setCell ⟨ga, k * 2 + 1, none⟩ (.int .i64 ((0 : Nat) : Int))).setCell ⟨ga, k * 2, none⟩ (.slice none 0 0)).heap.size = w.heap.size := by simp [World.setCell]
      obtain ⟨A, cap, hlv, -, -⟩ := h.lo.len_
      simp only [Int.natCast_zero] at R2 O2 hsz
      have key : Hid (∀ w4 g o c, Own w4 3 1 (.slice (some ⟨g, o, none⟩) (s.ln.length + 1) c) (s.ln.length + 1) (s.ln.map nV ++ [nV k]) →
          (((w.setCell ⟨ga, k * 2 + 1, none⟩ (.int .i64 0)).setCell ⟨ga, k * 2, none⟩ (.slice none 0 0)).alloc (.cells #[.int .i64 (k : Int)] 3)).grownBy w4 lv.ownBlock → (lv.ownBlock = some g ∨ g = w.heap.size + 1) →
          w4.cell? ⟨p, 1, none⟩ = some lv ∧ w4.frozen? ⟨p, 1, none⟩ = false ∧ Hid (Went w S p { s with hs := s.hs.set k 0, bs := s.bs.set k [], ln := s.ln ++ [k] } (w4.setCell ⟨p, 1, none⟩ (.slice (some ⟨g, o, none⟩) (s.ln.length + 1) c)))) := by
        intro w4 g o c hown hgrow hat
        have O3 := O2.alloc (.cells #[.int .i64 (k : Int)] 3)
        have O4 := O3.grown hgrow (fun kk hkk _ => h.sl kk hkk)
        have R3 := R2.frame (T := fun q => w.heap.size ≤ q) ((Only.refl _ _).alloc (.cells #[.int .i64 (k : Int)] 3)) (fun kk hkk => by have := h.lt kk hkk; omega)
        have R4 := R3.push (S' := fun q => S q ∨ (w.heap.size ≤ q ∧ q < (w4.setCell ⟨p, 1, none⟩ (.slice (some ⟨g, o, none⟩) (s.ln.length + 1) c)).heap.size)) hgrow (.slice (some ⟨g, o, none⟩) (s.ln.length + 1) c) (s.ln ++ [k]) (by simpa using hown)
          (fun kk hkk => by
            have e : g = kk := by simpa [Value.ownBlock] using hkk
            subst e
            rcases hat with hat | hat
            · exact .inl (h.sl _ hat)
            · right; have := hown.lt (k := g) rfl; simp [World.setCell]; omega)
          (fun _ hq => .inl hq)
          (fun q hq => by
            rcases hq with hq | hq
            · have := R3.lt q hq; have := hgrow.size; omega
            · simpa [World.setCell] using hq.2)
        have c4 := R3.c1
        have hpb := R3.pb.grown hgrow (fun e => own_ne_blk R3.lo R3.pb (by decide) e.symm)
        refine ⟨by rw [hpb.cell]; rfl, hpb.frozen 1, ?_⟩
        exact ⟨O4.setCell (p := ⟨p, 1, none⟩) (fun _ => h.sp) _, ga, _, _, R4⟩
      have HO := Lib.hid R2.lo
      have HSZ := Lib.hid hsz
      subst hlv
      clear h hh hb h0 ht R2 O2 hsz
      rw [h1] at ch
      simp only [Int.natCast_one] at ch
      generalize vs k = v0 at *
      generalize s.ln.length = n at *
      generalize s.ln.map nV = xs at *
      unfold pp
      go_enter Try.func11, Try.ntmps11
      go_wp2_with (first
        | (go_at_call 26; refine HC.out.mono ?_; rintro e1 w1 ⟨rfl, rfl⟩)
        | (at_builtin; go_loud (refine wpList_append_mine _ rfl (.tmp 30) (.tmp 32) _ rfl 3 i0 _ 1 8 Try.underlying30 hi0 hz0 hz1 hz2 rfl (by omega) (.slice A n cap) n xs rfl (by exact HO.out.alloc _) _ 1 1 [_] rfl rfl (by exact news_push rfl HSZ.out.symm) (by simp [Value.oneCell']) (by omega) (by simp only [maxLen]; omega) (by omega) _ rfl ?_; intro g2 o2 c2 w2 hown2 hgrow2 hat2; obtain ⟨cc, ff, HK⟩ := key.out w2 g2 o2 c2 hown2 hgrow2 (by rcases hat2 with h | h; exact .inl h; right; rw [h]; simp [World.setCell]); clear hown2 hgrow2 hat2)))
      go_ret
      exact ⟨rfl, HK.out⟩
    · rw [if_neg h1]
      have key : Hid (Went w S p { s with hs := s.hs.set k (s.hs.getD k 0 - 1) } (w.setCell ⟨ga, k * 2 + 1, none⟩ (.int .i64 ((s.hs.getD k 0 - 1 : Nat) : Int)))) :=
        Went.of ((Only.refl S w).setCell (p := ⟨ga, k * 2 + 1, none⟩) (fun _ => h.sa) _) (h.setHold k (s.hs.getD k 0 - 1) hk)
      clear h hh hb ht
      generalize s.hs.getD k 0 = m at *
      rw [show ((m - 1 : Nat) : Int) = (m : Int) - 1 by omega] at key
      have i1 : ((m : Int) - 1 == 0) = false := by rw [beq_eq_false_iff_ne]; omega
      clear h0 h1
      unfold pp
      go_enter Try.func11, Try.ntmps11
      go_wp2_with (go_at_call 26; refine HC.out.mono ?_; rintro e1 w1 ⟨rfl, rfl⟩)
      go_ret
      exact ⟨rfl, key.out⟩
  · rw [if_neg hh, if_neg hh]
    have HC := Lib.hid (held_nil i w h hh)
    have H := Lib.hid h
    clear h hh
    unfold pp
    go_enter Try.func11, Try.ntmps11
    go_wp2_with (go_at_call 26; refine HC.out.mono ?_; rintro e1 w1 ⟨rfl, rfl⟩)
    go_ret
    exact ⟨rfl, Went.of (Only.refl _ _) H.out⟩

/-- s[f:t], as the model has it. -/
theorem rd_mid {w : World} {B n b off f t : Nat} {xs : List Value} (h : Rd w B 1 (some ⟨b, off, none⟩) n xs) (hf : f ≤ t) (ht : t ≤ n) : Rd w B 1 (some ⟨b, off + f, none⟩) (t - f) ((xs.drop f).take (t - f)) := by
  refine ⟨by rw [List.length_take, List.length_drop, h.1]; omega, fun h0 => ?_⟩
  obtain ⟨b', off', hA', hlt, hc⟩ := h.2 (by omega)
  simp only [Option.some.injEq, Addr.mk.injEq, and_true] at hA'
  obtain ⟨rfl, rfl⟩ := hA'
  refine ⟨b, off + f, rfl, hlt, fun j hj => ?_⟩
  rw [Nat.add_assoc, hc (f + j) (by omega), List.getElem?_take, if_pos (by omega), List.getElem?_drop]

set_option maxHeartbeats 2000000 in
theorem view_any {S : Nat → Prop} {p : Nat} {s : PS} (i f t : Int) (w : World) (hR : Rep w S p s) (hz : (bOf s i).length ≤ 1000000) :
    Calls Try.prog 18 #[pp p, .int .i64 i, .int .i64 f, .int .i64 t] w fun e w' => e = .returned (.tuple #[.string ⟨(viewO s i f t).toArray⟩, .int .i64 (viewE s i f t)]) ∧ w = w' := by
  obtain ⟨ga, lv, vs, h⟩ := hR
  unfold viewO viewE
  by_cases hh : heldB s i
  · obtain ⟨k, rfl, hk, h0, -, hb, -⟩ := held_cases hh
    have HC := Lib.hid (held_some k w h hk h0)
    have cb := h.cb hk
    have hbo := h.bo k hk
    have e : viewOk s (k : Int) f t ↔ 0 ≤ f ∧ f ≤ t ∧ t ≤ ((s.bs.getD k []).length : Int) := by
      unfold viewOk; rw [hb]; exact ⟨fun x => x.2, fun x => ⟨hh, x⟩⟩
    rw [hb] at hz ⊢
    obtain ⟨A, cap, hv, hcap, -⟩ := hbo.len_
    rw [hv] at cb hbo
    have hr := hbo.rd
    clear h hh h0 hbo hv
    generalize s.bs.getD k [] = bs at *
    by_cases hok : viewOk s (k : Int) f t
    · simp only [if_pos hok]
      obtain ⟨h1, h2, h3⟩ := e.1 hok
      clear e hok
      obtain ⟨a, rfl⟩ := Int.eq_ofNat_of_zero_le h1
      obtain ⟨b, rfl⟩ := Int.eq_ofNat_of_zero_le (show 0 ≤ t by omega)
      simp only [Int.toNat_natCast]
      have j1 : a ≤ b := by omega
      have j2 : b ≤ bs.length := by omega
      have i1 : ¬ (a : Int) < 0 := by omega
      have i2 : ¬ (b : Int) < (a : Int) := by omega
      have i3 : ¬ ((bs.length : Nat) : Int) < (b : Int) := by omega
      have i4 : b ≤ cap := by omega
      have kb : ∀ (A' : Option Addr) (c' : Nat), (a < b → ∀ g o, A = some ⟨g, o, none⟩ → A' = some ⟨g, o + a, none⟩) → (convert 22 9 (.slice A' (b - a) c')).run Try.prog w = .ok (.string ⟨((bs.drop a).take (b - a)).toArray⟩) w := by
        intro A' c' hA
        refine conv_rd (B := w.heap.size) ?_
        rw [List.map_take, List.map_drop]
        by_cases hab : a < b
        · obtain ⟨g, o, rfl, _, _⟩ := hr.2 (by omega)
          rw [hA hab g o rfl]
          exact rd_mid hr j1 j2
        · have : b - a = 0 := by omega
          rw [this]
          exact ⟨by simp, fun h => absurd h (by omega)⟩
      cases A with
      | none =>
        have hn0 : bs.length = 0 := by
          rcases Nat.eq_zero_or_pos bs.length with h | h
          · exact h
          · obtain ⟨g, o, h', _⟩ := hr.2 h
            simp at h'
        obtain rfl : b = 0 := by omega
        obtain rfl : a = 0 := by omega
        have kc := fun A' c' => kb A' c' (by omega)
        clear kb hr
        rw [hn0] at cb i3
        generalize ((bs.drop 0).take (0 - 0)) = rs at *
        unfold pp
        go_enter Try.func18, Try.ntmps18
        go_wp2_with (go_at_call 26; refine HC.out.mono ?_; rintro e1 w1 ⟨rfl, rfl⟩)
        go_ret2
        exact ⟨rfl, rfl⟩
      | some ad =>
        by_cases hca : cap = a
        · have kc := kb (some ad) 0 (fun h => absurd h (by omega))
          subst hca
          obtain rfl : b = cap := by omega
          clear hr kb
          generalize ((bs.drop b).take (b - b)) = rs at *
          simp only [Nat.sub_self] at kc
          generalize bs.length = n at *
          unfold pp
          go_enter Try.func18, Try.ntmps18
          go_wp2_with (go_at_call 26; refine HC.out.mono ?_; rintro e1 w1 ⟨rfl, rfl⟩)
          go_ret2
          exact ⟨rfl, rfl⟩
        · have kc := kb (some (ad.add a)) (cap - a) (fun _ g o h => by cases h; rw [add_plain])
          clear hr kb
          generalize ((bs.drop a).take (b - a)) = rs at *
          generalize bs.length = n at *
          unfold pp
          go_enter Try.func18, Try.ntmps18
          go_wp2_with (go_at_call 26; refine HC.out.mono ?_; rintro e1 w1 ⟨rfl, rfl⟩)
          go_ret2
          exact ⟨rfl, rfl⟩
    · simp only [if_neg hok]
      rw [e] at hok
      clear e hr
      generalize bs.length = n at *
      unfold pp
      by_cases h1 : f < 0
      · go_enter Try.func18, Try.ntmps18
        go_wp2_with (go_at_call 26; refine HC.out.mono ?_; rintro e1 w1 ⟨rfl, rfl⟩)
        go_ret2
        exact ⟨rfl, rfl⟩
      · by_cases h2 : t < f
        · go_enter Try.func18, Try.ntmps18
          go_wp2_with (go_at_call 26; refine HC.out.mono ?_; rintro e1 w1 ⟨rfl, rfl⟩)
          go_ret2
          exact ⟨rfl, rfl⟩
        · have h3 : (n : Int) < t := by omega
          clear hok
          go_enter Try.func18, Try.ntmps18
          go_wp2_with (go_at_call 26; refine HC.out.mono ?_; rintro e1 w1 ⟨rfl, rfl⟩)
          go_ret2
          exact ⟨rfl, rfl⟩
  · have hv : ¬ viewOk s i f t := fun x => hh x.1
    simp only [if_neg hv]
    have HC := Lib.hid (held_nil i w h hh)
    clear h hh hv hz
    unfold pp
    go_enter Try.func18, Try.ntmps18
    go_wp2_with (go_at_call 26; refine HC.out.mono ?_; rintro e1 w1 ⟨rfl, rfl⟩)
    go_ret2
    exact ⟨rfl, rfl⟩
end Go.Proofs.Ytmebpalfjcejoaa
