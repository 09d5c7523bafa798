/-
  The contracts of slices.Clone and of the pool's functions Fill, Free, Drop, View, Bytes; no condition beyond those that each theorem states.
-/
import Derived.Test.YtmebpalfjcejoaaPool2
namespace Go.Proofs.Ytmebpalfjcejoaa
open Go.RowKit Go.Rb

set_option maxHeartbeats 1000000 in
theorem clone_any (A : Option Addr) (n c B : Nat) (bs : List UInt8) (w : World) (hr : Rd w B 1 A n (bs.map bV)) (hn : n ≤ 1000000) (hB : B ≤ w.heap.size) :
    Calls Try.prog 27 #[.slice A n c] w (RetNewB w bs) := by
  obtain ⟨i0, hi0, hz0, hz1, hz2⟩ := info_parts info5
  have hl : bs.length = n := by simpa using hr.1
  have q22 : ∀ (w : World) (a : Option Addr) (n c n' c' : Nat), (binOp .eql 22 (.slice a n c) (.slice none n' c')).run Try.prog w = .ok (.bool a.isNone) w := fun w a n c n' c' => Lib.run_eql_slice_nil w _ _ a n c n' c' Try.underlying22
  have HR := Lib.hid hr
  have HL := Lib.hid hl
  clear hl
  have h63 : 0 + n ≤ maxLen := by simp only [maxLen]; omega
  have H63 := Lib.hid h63
  clear h63
  cases A with
  | none =>
    have h0 : n = 0 := by
      rcases Nat.eq_zero_or_pos n with h0 | h0
      · exact h0
      · obtain ⟨b, o, h, _⟩ := hr.2 h0
        simp at h
    subst h0
    obtain rfl : bs = [] := List.eq_nil_of_length_eq_zero HL.out
    clear hr
    go_enter Try.func27, Try.ntmps27
    go_wp2
    go_ret
    exact ⟨_, rfl, Own.nil_ _ _ _, Below.refl _ _, by simp [Value.ownBlock]⟩
  | some a =>
    clear hr
    go_enter Try.func27, Try.ntmps27
    go_wp2_with (at_builtin; refine wpList_append_rd _ rfl (.tmp 5) (.tmp 6) _ rfl 5 i0 _ 1 1 Try.underlying22 hi0 hz0 hz1 hz2 rfl (by omega) (.slice (some ⟨w.heap.size, 0, none⟩) 0 0) 0 [] rfl (by exact Own.lit w 5 1 0 #[] rfl (by decide)) B (some a) n c (bs.map bV) rfl (by exact HR.out.below ((below_al (Below.refl _ _) _).mono hB)) (by simp [bV, Value.oneCell']) H63.out (by omega) _ rfl ?_; intro v1 w1 hown1 hgrow1 hat1)
    go_ret
    refine ⟨_, rfl, ?_, Below.grown (below_al (Below.refl _ w) _) hgrow1 (by simp) (by simp [Value.ownBlock]), ?_⟩
    · rw [HL.out]; simpa using hown1
    · intro k hk
      rcases hat1 with h | h
      · have h' := h.symm.trans hk
        have : w.heap.size = k := by simpa [Value.ownBlock] using h'
        omega
      · have h' := h.symm.trans hk
        have : w.heap.size + 1 = k := by simpa using h'
        omega

set_option maxHeartbeats 1000000 in
theorem cloneI_any (A : Option Addr) (n c B : Nat) (xs : List Int) (w : World) (hr : Rd w B 1 A n (xs.map iV)) (hn : n ≤ 1000000) (hB : B ≤ w.heap.size) :
    Calls Try.prog 28 #[.slice A n c] w (RetNewI w xs) := by
  obtain ⟨i0, hi0, hz0, hz1, hz2⟩ := info_parts info3
  have hl : xs.length = n := by simpa using hr.1
  have q30 : ∀ (w : World) (a : Option Addr) (n c n' c' : Nat), (binOp .eql 30 (.slice a n c) (.slice none n' c')).run Try.prog w = .ok (.bool a.isNone) w := fun w a n c n' c' => Lib.run_eql_slice_nil w _ _ a n c n' c' Try.underlying30
  have HR := Lib.hid hr
  have HL := Lib.hid hl
  clear hl
  have h63 : 0 + n ≤ maxLen := by simp only [maxLen]; omega
  have H63 := Lib.hid h63
  clear h63
  cases A with
  | none =>
    have h0 : n = 0 := by
      rcases Nat.eq_zero_or_pos n with h0 | h0
      · exact h0
      · obtain ⟨b, o, h, _⟩ := hr.2 h0
        simp at h
    subst h0
    obtain rfl : xs = [] := List.eq_nil_of_length_eq_zero HL.out
    clear hr
    go_enter Try.func28, Try.ntmps28
    go_wp2
    go_ret
    exact ⟨_, rfl, Own.nil_ _ _ _, Below.refl _ _, by simp [Value.ownBlock]⟩
  | some a =>
    clear hr
    go_enter Try.func28, Try.ntmps28
    go_wp2_with (at_builtin; refine wpList_append_rd _ rfl (.tmp 5) (.tmp 6) _ rfl 3 i0 _ 1 8 Try.underlying30 hi0 hz0 hz1 hz2 rfl (by omega) (.slice (some ⟨w.heap.size, 0, none⟩) 0 0) 0 [] rfl (by exact Own.lit w 3 1 0 #[] rfl (by decide)) B (some a) n c (xs.map iV) rfl (by exact HR.out.below ((below_al (Below.refl _ _) _).mono hB)) (by simp [iV, Value.oneCell']) H63.out (by omega) _ rfl ?_; intro v1 w1 hown1 hgrow1 hat1)
    go_ret
    refine ⟨_, rfl, ?_, Below.grown (below_al (Below.refl _ w) _) hgrow1 (by simp) (by simp [Value.ownBlock]), ?_⟩
    · rw [HL.out]; simpa using hown1
    · intro k hk
      rcases hat1 with h | h
      · have h' := h.symm.trans hk
        have : w.heap.size = k := by simpa [Value.ownBlock] using h'
        omega
      · have h' := h.symm.trans hk
        have : w.heap.size + 1 = k := by simpa using h'
        omega

theorem nV_map (ln : List Nat) : ln.map nV = (ln.map (fun k : Nat => (k : Int))).map iV := by
  rw [List.map_map]; rfl

set_option maxHeartbeats 1000000 in
theorem free_any {S : Nat → Prop} {p : Nat} {s : PS} (w : World) (hR : Rep w S p s) (hm : s.ln.length ≤ 1000000) :
    Calls Try.prog 14 #[pp p] w (RetNewI w (s.ln.map (fun k : Nat => (k : Int)))) := by
  obtain ⟨ga, lv, vs, h⟩ := hR
  have c1 := h.c1
  have hlo := h.lo
  rw [nV_map] at hlo
  obtain ⟨A, cap, rfl, hr, -⟩ := Own.rdI hlo
  have HC := Lib.hid (cloneI_any A s.ln.length cap _ _ w hr hm (Nat.le_refl _))
  clear h hlo hr
  generalize s.ln.length = n at *
  generalize s.ln.map (fun k : Nat => (k : Int)) = zs at *
  unfold pp
  go_enter Try.func14, Try.ntmps14
  go_wp2_with (go_at_call 28; refine HC.out.mono ?_; rintro e1 w1 ⟨v1, rfl, hnew1⟩)
  go_ret
  exact ⟨_, rfl, hnew1⟩

set_option maxHeartbeats 1000000 in
theorem fill_any {S : Nat → Prop} {p : Nat} {s : PS} (i : Int) (A : Option Addr) (n c B : Nat) (b : List UInt8) (w : World) (hR : Rep w S p s) (hr : Rd w B 1 A n (b.map bV)) (hB : B ≤ w.heap.size) :
    Calls Try.prog 13 #[pp p, .int .i64 i, .slice A n c] w fun e w' => e = .returned (.int .i64 (fillE s i b)) ∧ Went w S p (fillS s i b) w' := by
  obtain ⟨ga, lv, vs, h⟩ := hR
  have hl : b.length = n := by simpa using hr.1
  unfold fillS
  unfold fillE
  by_cases hh : heldB s i
  · simp only [if_pos hh]
    obtain ⟨k, rfl, hk, h0, hb, -, ht⟩ := held_cases hh
    rw [hb]
    have ch := h.ch hk
    have c2 := h.c2
    have HC := Lib.hid (held_some k w h hk h0)
    by_cases h1 : 1 < s.hs.getD k 0
    · simp only [if_pos h1]
      have H := Lib.hid h
      clear h hh hb h0 ht hr
      generalize s.hs.getD k 0 = m at *
      have i1 : (1 : Int) < (m : Int) := by omega
      unfold pp
      go_enter Try.func13, Try.ntmps13
      go_wp2_with (go_at_call 26; refine HC.out.mono ?_; rintro e1 w1 ⟨rfl, rfl⟩)
      go_ret
      exact ⟨rfl, Went.of (Only.refl _ _) H.out⟩
    · simp only [if_neg h1, hl]
      by_cases h2 : s.size < n
      · simp only [if_pos h2]
        have H := Lib.hid h
        clear h hh hb h0 ht hr
        generalize s.hs.getD k 0 = m at *
        generalize s.size = z at *
        have i1 : ¬ (1 : Int) < (m : Int) := by omega
        have i2 : (z : Int) < (n : Int) := by omega
        unfold pp
        go_enter Try.func13, Try.ntmps13
        go_wp2_with (go_at_call 26; refine HC.out.mono ?_; rintro e1 w1 ⟨rfl, rfl⟩)
        go_ret
        exact ⟨rfl, Went.of (Only.refl _ _) H.out⟩
      · simp only [if_neg h2, if_pos]
        rw [ht]
        have hz := h.nz
        have HCl := Lib.hid (clone_any A n c B b w hr (by omega) hB)
        have f2 := h.fa (k * 2)
        have cb := h.cb hk
        have cb' : ∀ w', Below w.heap.size w w' → w'.cell? ⟨ga, k * 2, none⟩ = some (vs k) := fun w' hb' => by
          rw [hb'.cell (p := ⟨ga, k * 2, none⟩) (h.lt _ h.sa), cb]
        have f2' : ∀ w', Below w.heap.size w w' → w'.frozen? ⟨ga, k * 2, none⟩ = false := fun w' hb' => by
          rw [hb'.frozen (p := ⟨ga, k * 2, none⟩) (h.lt _ h.sa)]; exact f2
        have key : Hid (∀ w' v, NewB w w' v b → Went w S p { s with bs := s.bs.set k b } (w'.setCell ⟨ga, k * 2, none⟩ v)) := by
          rintro w' v ⟨h3, h4, h5⟩
          have hO : Only (fun k => w.heap.size ≤ k) w w' := Only.of_below h4
          have h6 := h.frame hO (fun k hk => by have := h.lt k hk; omega)
          have h7 := h6.mono (S' := fun q => S q ∨ (w.heap.size ≤ q ∧ q < (w'.setCell ⟨ga, k * 2, none⟩ v).heap.size)) (fun k hk => .inl hk) (fun k hk => by rcases hk with hk | hk; exact h6.lt k hk; simpa [World.setCell] using hk.2)
          have h8 := h7.setBuf k hk v b h3 (fun kk hkk => .inr ⟨h5 kk hkk, by have := h3.lt hkk; simpa [World.setCell] using this⟩)
          refine ⟨?_, ga, lv, _, h8⟩
          exact Only.setCell (p := ⟨ga, k * 2, none⟩) ((hO.mono (fun kk h1 h2 => by omega)) : Only S w w') (fun _ => h.sa) v
        clear h hh hb h0 ht hr
        generalize s.hs.getD k 0 = m at *
        generalize s.size = z at *
        have i1 : ¬ (1 : Int) < (m : Int) := by omega
        have i2 : ¬ (z : Int) < (n : Int) := by omega
        unfold pp
        go_enter Try.func13, Try.ntmps13
        go_wp2_with (first
          | (go_at_call 26; refine HC.out.mono ?_; rintro e1 w1 ⟨rfl, rfl⟩)
          | (go_at_call 27; refine HCl.out.mono ?_; rintro e2 w2 ⟨v2, rfl, hnew2⟩; have HK2 := Lib.hid (key.out _ _ hnew2); have cb2 := cb' _ hnew2.2.1; have f22 := f2' _ hnew2.2.1; obtain ⟨A2, cp2, rfl, -, -⟩ := hnew2.1.len_; rw [hl] at HK2; clear hnew2))
        go_ret
        exact ⟨rfl, HK2.out⟩
  · simp only [if_neg hh]
    have HC := Lib.hid (held_nil i w h hh)
    have H := Lib.hid h
    clear h hh hr
    unfold pp
    go_enter Try.func13, Try.ntmps13
    go_wp2_with (go_at_call 26; refine HC.out.mono ?_; rintro e1 w1 ⟨rfl, rfl⟩)
    go_ret
    exact ⟨rfl, Went.of (Only.refl _ _) H.out⟩
end Go.Proofs.Ytmebpalfjcejoaa
