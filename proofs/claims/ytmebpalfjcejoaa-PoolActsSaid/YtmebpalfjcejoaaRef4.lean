/-
  The contracts of the functions New and Bytes of the document's pool; no condition beyond those that each theorem states.
-/
import Derived.Test.YtmebpalfjcejoaaRef1
namespace Go.Proofs.Ytmebpalfjcejoaa
open Go.RowKit Go.Rb

/-- The document's pool while it is made. -/
structure RN (w0 w : World) (p : Nat) (hv bv lv : Value) (hs : List Nat) (bs : List (List UInt8)) (ln : List Nat) (z : Nat) : Prop where
  pb : Blk w p 56 #[hv, bv, lv, nV z]
  ho : Own w 3 1 hv hs.length (hs.map nV)
  bo : Own w 9 1 bv bs.length (bs.map sV)
  lo : Own w 3 1 lv ln.length (ln.map nV)
  ne : ∀ k, hv.ownBlock = some k → lv.ownBlock ≠ some k
  bel : Below w0.heap.size w0 w
  hp : w0.heap.size ≤ p
  hh : ∀ k, hv.ownBlock = some k → w0.heap.size ≤ k
  hb : ∀ k, bv.ownBlock = some k → w0.heap.size ≤ k
  hl : ∀ k, lv.ownBlock = some k → w0.heap.size ≤ k
section
variable {w0 w w' : World} {p : Nat} {hv bv lv : Value} {hs : List Nat} {bs : List (List UInt8)} {ln : List Nat} {z : Nat}
theorem RN.c0 (h : RN w0 w p hv bv lv hs bs ln z) : w.cell? ⟨p, 0, none⟩ = some hv := by rw [h.pb.cell]; rfl
theorem RN.c1 (h : RN w0 w p hv bv lv hs bs ln z) : w.cell? ⟨p, 1, none⟩ = some bv := by rw [h.pb.cell]; rfl
theorem RN.c2 (h : RN w0 w p hv bv lv hs bs ln z) : w.cell? ⟨p, 2, none⟩ = some lv := by rw [h.pb.cell]; rfl
theorem fresh_new {g : Nat} {v : Value} {o : Obj} (h : ∀ k, v.ownBlock = some k → w0.heap.size ≤ k) (hs : w0.heap.size ≤ w.heap.size) (hat : v.ownBlock = some g ∨ g = (w.alloc o).heap.size) : w0.heap.size ≤ g := by
  rcases hat with h' | h'
  · exact h _ h'
  · rw [h']; simp; omega
theorem RN.pushH (h : RN w0 w p hv bv lv hs bs ln z) (o : Obj) {g off n c : Nat} (hg : (w.alloc o).grownBy w' hv.ownBlock) (hat : hv.ownBlock = some g ∨ g = (w.alloc o).heap.size) (hs' : List Nat)
    (ho : Own w' 3 1 (.slice (some ⟨g, off, none⟩) n c) hs'.length (hs'.map nV)) : RN w0 (w'.setCell ⟨p, 0, none⟩ (.slice (some ⟨g, off, none⟩) n c)) p (.slice (some ⟨g, off, none⟩) n c) bv lv hs' bs ln z := by
  have hsz := h.bel.size
  have a1 := h.pb.alloc o; have a2 := h.ho.alloc o; have a3 := h.bo.alloc o; have a4 := h.lo.alloc o
  have b1 := a1.grown hg (fun e => own_ne_blk a2 a1 (by decide) e.symm)
  have b3 := a3.grown hg (fun k hk e => own_ne' a3 a2 (by decide) k hk e)
  have b4 := a4.grown hg (fun k hk e => h.ne k e hk)
  have hgn := fresh_new h.hh hsz hat
  refine ⟨by simpa using b1.set_ 0 _, ho.setCell (p := ⟨p, 0, none⟩) (own_ne_blk ho b1 (by decide)) _, b3.setCell (p := ⟨p, 0, none⟩) (own_ne_blk b3 b1 (by decide)) _, b4.setCell (p := ⟨p, 0, none⟩) (own_ne_blk b4 b1 (by decide)) _,
    fun k hk e => ?_, (Below.grown (h.bel.alloc hsz _) hg (by simp; omega) (fun q hq => h.hh q hq)).setCell (p := ⟨p, 0, none⟩) h.hp _, h.hp, fun k hk => ?_, h.hb, h.hl⟩
  · have e1 : g = k := by simpa [Value.ownBlock] using hk
    subst e1
    rcases hat with hat | hat
    · exact h.ne _ hat e
    · have := h.lo.lt e; rw [hat] at this; simp at this; omega
  · have e1 : g = k := by simpa [Value.ownBlock] using hk
    omega
theorem RN.pushB (h : RN w0 w p hv bv lv hs bs ln z) (o : Obj) {g off n c : Nat} (hg : (w.alloc o).grownBy w' bv.ownBlock) (hat : bv.ownBlock = some g ∨ g = (w.alloc o).heap.size) (bs' : List (List UInt8))
    (ho : Own w' 9 1 (.slice (some ⟨g, off, none⟩) n c) bs'.length (bs'.map sV)) : RN w0 (w'.setCell ⟨p, 1, none⟩ (.slice (some ⟨g, off, none⟩) n c)) p hv (.slice (some ⟨g, off, none⟩) n c) lv hs bs' ln z := by
  have hsz := h.bel.size
  have a1 := h.pb.alloc o; have a2 := h.ho.alloc o; have a3 := h.bo.alloc o; have a4 := h.lo.alloc o
  have b1 := a1.grown hg (fun e => own_ne_blk a3 a1 (by decide) e.symm)
  have b2 := a2.grown hg (fun k hk e => own_ne' a2 a3 (by decide) k hk e)
  have b4 := a4.grown hg (fun k hk e => own_ne' a4 a3 (by decide) k hk e)
  have hgn := fresh_new h.hb hsz hat
  exact ⟨by simpa using b1.set_ 1 _, b2.setCell (p := ⟨p, 1, none⟩) (own_ne_blk b2 b1 (by decide)) _, ho.setCell (p := ⟨p, 1, none⟩) (own_ne_blk ho b1 (by decide)) _, b4.setCell (p := ⟨p, 1, none⟩) (own_ne_blk b4 b1 (by decide)) _,
    h.ne, (Below.grown (h.bel.alloc hsz _) hg (by simp; omega) (fun q hq => h.hb q hq)).setCell (p := ⟨p, 1, none⟩) h.hp _, h.hp, h.hh, fun k hk => by
      have e1 : g = k := by simpa [Value.ownBlock] using hk
      omega, h.hl⟩
theorem RN.pushL (h : RN w0 w p hv bv lv hs bs ln z) (o : Obj) {g off n c : Nat} (hg : (w.alloc o).grownBy w' lv.ownBlock) (hat : lv.ownBlock = some g ∨ g = (w.alloc o).heap.size) (ln' : List Nat)
    (ho : Own w' 3 1 (.slice (some ⟨g, off, none⟩) n c) ln'.length (ln'.map nV)) : RN w0 (w'.setCell ⟨p, 2, none⟩ (.slice (some ⟨g, off, none⟩) n c)) p hv bv (.slice (some ⟨g, off, none⟩) n c) hs bs ln' z := by
  have hsz := h.bel.size
  have a1 := h.pb.alloc o; have a2 := h.ho.alloc o; have a3 := h.bo.alloc o; have a4 := h.lo.alloc o
  have b1 := a1.grown hg (fun e => own_ne_blk a4 a1 (by decide) e.symm)
  have b2 := a2.grown hg (fun k hk e => h.ne k hk e)
  have b3 := a3.grown hg (fun k hk e => own_ne' a3 a4 (by decide) k hk e)
  have hgn := fresh_new h.hl hsz hat
  refine ⟨by simpa using b1.set_ 2 _, b2.setCell (p := ⟨p, 2, none⟩) (own_ne_blk b2 b1 (by decide)) _, b3.setCell (p := ⟨p, 2, none⟩) (own_ne_blk b3 b1 (by decide)) _, ho.setCell (p := ⟨p, 2, none⟩) (own_ne_blk ho b1 (by decide)) _,
    fun k hk e => ?_, (Below.grown (h.bel.alloc hsz _) hg (by simp; omega) (fun q hq => h.hl q hq)).setCell (p := ⟨p, 2, none⟩) h.hp _, h.hp, h.hh, h.hb, fun k hk => ?_⟩
  · have e1 : g = k := by simpa [Value.ownBlock] using e
    subst e1
    rcases hat with hat | hat
    · exact h.ne _ hk hat
    · have := h.ho.lt hk; rw [hat] at this; simp at this; omega
  · have e1 : g = k := by simpa [Value.ownBlock] using hk
    omega
theorem RN.at0 (h : RN w0 w p hv bv lv hs bs ln z) (o : Obj) (hg : (w.alloc o).grownBy w' hv.ownBlock) : w'.cell? ⟨p, 0, none⟩ = some hv ∧ w'.frozen? ⟨p, 0, none⟩ = false := by
  have b1 := (h.pb.alloc o).grown hg (fun e => own_ne_blk (h.ho.alloc o) (h.pb.alloc o) (by decide) e.symm)
  exact ⟨by rw [b1.cell]; rfl, b1.frozen 0⟩
theorem RN.at1 (h : RN w0 w p hv bv lv hs bs ln z) (o : Obj) (hg : (w.alloc o).grownBy w' bv.ownBlock) : w'.cell? ⟨p, 1, none⟩ = some bv ∧ w'.frozen? ⟨p, 1, none⟩ = false := by
  have b1 := (h.pb.alloc o).grown hg (fun e => own_ne_blk (h.bo.alloc o) (h.pb.alloc o) (by decide) e.symm)
  exact ⟨by rw [b1.cell]; rfl, b1.frozen 1⟩
theorem RN.at2 (h : RN w0 w p hv bv lv hs bs ln z) (o : Obj) (hg : (w.alloc o).grownBy w' lv.ownBlock) : w'.cell? ⟨p, 2, none⟩ = some lv ∧ w'.frozen? ⟨p, 2, none⟩ = false := by
  have b1 := (h.pb.alloc o).grown hg (fun e => own_ne_blk (h.lo.alloc o) (h.pb.alloc o) (by decide) e.symm)
  exact ⟨by rw [b1.cell]; rfl, b1.frozen 2⟩
end

set_option maxHeartbeats 4000000 in
theorem rnew_any (n z : Nat) (w : World) (h2 : n ≤ 64) (h4 : z ≤ 4096) :
    Calls Try.prog 19 #[.int .i64 (n : Int), .int .i64 (z : Int)] w fun e w' => ∃ p S, e = .returned (pp p) ∧ Below w.heap.size w w' ∧ RefR w' S p (newS n z) ∧ ∀ k, S k → w.heap.size ≤ k := by
  obtain ⟨i0, hi0, hz0, hz1, hz2⟩ := info_parts info3
  obtain ⟨i1, hi1, hy0, hy1, hy2⟩ := info_parts infoS
  have HI : Hid (RN w (w.alloc (.cells #[.slice none 0 0, .slice none 0 0, .slice none 0 0, .int .i64 (z : Int)] 56)) w.heap.size (.slice none 0 0) (.slice none 0 0) (.slice none 0 0) [] [] [] z) :=
    ⟨Blk.new w _ _, Own.nil_ _ _ _, Own.nil_ _ _ _, Own.nil_ _ _ _, by simp [Value.ownBlock], below_al (Below.refl _ w) _, Nat.le_refl _, by simp [Value.ownBlock], by simp [Value.ownBlock], by simp [Value.ownBlock]⟩
  go_enter Try.func19, Try.ntmps19
  go_wp2
  go_loopw [6] (fun i wr => ∃ (k : Nat) (hv bv lv : Value), k ≤ n ∧ i = .int .i64 k ∧ RN w wr w.heap.size hv bv lv (List.replicate k 0) (List.replicate k []) (List.range k) z) (fun i _ => n - (intOf i).toNat)
  case atStart => exact ⟨0, _, _, _, by omega, rfl, HI.out⟩
  case round =>
    obtain ⟨k, hv, bv, lv, hk, rfl, hrn⟩ := hrel
    by_cases hlt : k < n
    · have i5 : (k : Int) < (n : Int) := by omega
      have c0 := hrn.c0
      obtain ⟨A1, q1, rfl, -, -⟩ := hrn.ho.len_
      obtain ⟨A2, q2, rfl, -, -⟩ := hrn.bo.len_
      obtain ⟨A3, q3, rfl, -, -⟩ := hrn.lo.len_
      simp only [List.length_replicate, List.length_range] at *
      have HO1 : Hid (Own wr 3 1 (.slice A1 k q1) k ((List.replicate k 0).map nV)) := by show Own _ _ _ _ _ _; simpa using hrn.ho
      have HRN := Lib.hid hrn
      clear hrn
      go_wp2_with (first
        | (at_builtin; go_loud (refine wpList_append_mine _ rfl (.tmp 37) (.tmp 39) _ rfl 3 i0 _ 1 8 Try.underlying30 hi0 hz0 hz1 hz2 rfl (by omega) (.slice A3 k q3) k ((List.range k).map nV) rfl (by exact HO3.out.alloc _) _ 1 1 [_] rfl rfl (by exact news_push rfl (by simp [World.setCell])) (by simp [Value.oneCell']) (by omega) (by simp only [maxLen]; omega) (by omega) _ rfl ?_; intro g5 o5 c5 w5 hown5 hgrow5 hat5; obtain ⟨x5, f5⟩ := HR4.out.at2 _ hgrow5; have HR5 := Lib.hid (HR4.out.pushL (off := o5) (n := k + 1) (c := c5) _ hgrow5 hat5 (List.range (k + 1)) (by simpa [List.replicate_succ', List.range_succ, nV, sV] using hown5)); clear hown5 hgrow5 hat5))
        | (at_builtin; go_loud (refine wpList_append_mine _ rfl (.tmp 28) (.tmp 29) _ rfl 9 i1 _ 1 16 Try.underlying54 hi1 hy0 hy1 hy2 rfl (by omega) (.slice A2 k q2) k ((List.replicate k []).map sV) rfl (by exact HO2.out.alloc _) _ 1 1 [_] rfl rfl (by exact news_push rfl (by simp [World.setCell])) (by simp [Value.oneCell']) (by omega) (by simp only [maxLen]; omega) (by omega) _ rfl ?_; intro g4 o4 c4 w4 hown4 hgrow4 hat4; obtain ⟨x4, f4⟩ := HR3.out.at1 _ hgrow4; have HR4 := Lib.hid (HR3.out.pushB (off := o4) (n := k + 1) (c := c4) _ hgrow4 hat4 (List.replicate (k + 1) []) (by simpa [List.replicate_succ', List.range_succ, nV, sV] using hown4)); have y4 := HR4.out.c2; have HO3 : Hid (Own (w4.setCell ⟨w.heap.size, 1, none⟩ (.slice (some ⟨g4, o4, none⟩) (k + 1) c4)) 3 1 (.slice A3 k q3) k ((List.range k).map nV)) := (by have h := HR4.out.lo; rwa [List.length_range] at h); clear hown4 hgrow4 hat4))
        | (at_builtin; go_loud (refine wpList_append_mine _ rfl (.tmp 19) (.tmp 20) _ rfl 3 i0 _ 1 8 Try.underlying30 hi0 hz0 hz1 hz2 rfl (by omega) (.slice A1 k q1) k ((List.replicate k 0).map nV) rfl (by exact HO1.out.alloc _) _ 1 1 [_] rfl rfl (by exact news_push rfl (by simp [World.setCell])) (by simp [Value.oneCell']) (by omega) (by simp only [maxLen]; omega) (by omega) _ rfl ?_; intro g3 o3 c3 w3 hown3 hgrow3 hat3; obtain ⟨x3, f3⟩ := HRN.out.at0 _ hgrow3; have HR3 := Lib.hid (HRN.out.pushH (off := o3) (n := k + 1) (c := c3) _ hgrow3 hat3 (List.replicate (k + 1) 0) (by simpa [List.replicate_succ', List.range_succ, nV, sV] using hown3)); have y3 := HR3.out.c1; have HO2 : Hid (Own (w3.setCell ⟨w.heap.size, 0, none⟩ (.slice (some ⟨g3, o3, none⟩) (k + 1) c3)) 9 1 (.slice A2 k q2) k ((List.replicate k []).map sV)) := (by have h := HR3.out.bo; rwa [List.length_replicate] at h); clear hown3 hgrow3 hat3)))
      go_roundw
      case rel => exact ⟨k + 1, _, _, _, by omega, by go_num, HR5.out⟩
      case measure => simp [intOf]; omega
    · obtain rfl : k = n := by omega
      have HRN := Lib.hid hrn
      clear hrn
      go_wp2
      go_ret
      have h := HRN.out
      refine ⟨_, fun q => w.heap.size ≤ q ∧ q < wr.heap.size, rfl, h.bel, ⟨hv, bv, lv, ?_⟩, fun q hq => hq.1⟩
      exact ⟨by simpa [newS] using h.pb, by simpa [newS] using h.ho, by simpa [newS] using h.bo, by simpa [newS] using h.lo, h.ne, by simp [newS], ⟨h.hp, h.pb.lt⟩, fun q hq => ⟨h.hh q hq, h.ho.lt hq⟩, fun q hq => ⟨h.hb q hq, h.bo.lt hq⟩, fun q hq => ⟨h.hl q hq, h.lo.lt hq⟩, fun q hq => hq.2, by simpa [newS] using h2, by simpa [newS] using h4⟩

set_option maxHeartbeats 2000000 in
theorem rbytes_any {S : Nat → Prop} {p : Nat} {s : PS} (w : World) (hR : RefR w S p s) (hb : ∀ i, (s.bs.getD i []).length ≤ 5000) :
    Calls Try.prog 25 #[pp p] w fun e w' => e = .returned (.int .i64 (bytesO s : Nat)) ∧ w = w' := by
  obtain ⟨hv, bv, lv, h⟩ := hR
  have c1 := h.c1
  have nn : s.bs.length ≤ 64 := by rw [h.bl]; exact h.nn
  obtain ⟨A, cap, rfl, -, -⟩ := h.bo.len_
  have hcell := h.bo.rd.2
  unfold bytesO
  have hstep := sum_step s.bs
  have hall : s.bs.take s.bs.length = s.bs := List.take_of_length_le (by omega)
  clear h
  generalize s.bs = bs at *
  have HC := Lib.hid hcell
  have HS := Lib.hid hstep
  have HB := Lib.hid hb
  have HA := Lib.hid hall
  clear hcell hstep hb hall
  generalize hn : bs.length = n at *
  unfold pp
  go_enter Try.func25, Try.ntmps25
  go_wp2
  go_loopw [3, 4] (fun t i wr => ∃ k : Nat, k ≤ n ∧ i = .int .i64 k ∧ t = .int .i64 ((((bs.take k).map List.length).sum : Nat) : Int) ∧ ((bs.take k).map List.length).sum ≤ 5000 * k ∧ w = wr) (fun _ i _ => n - (intOf i).toNat)
  case atStart => exact ⟨0, by omega, rfl, rfl, by simp, rfl⟩
  case round =>
    obtain ⟨k, hk, rfl, rfl, hle, rfl⟩ := hrel
    by_cases hlt : k < n
    · have i5 : (k : Int) < (n : Int) := by omega
      obtain ⟨g, o, rfl, -, hc⟩ := HC.out (by omega)
      have ca := hc k (by omega)
      rw [List.getElem?_map, List.getElem?_eq_getElem (by omega)] at ca
      simp only [Option.map_some, sV] at ca
      have h1 := HS.out k (by omega)
      have h2 := HB.out k
      have e3 : bs.getD k [] = bs[k]'(by omega) := by simp [List.getD, show k < bs.length by omega]
      rw [e3] at h1 h2
      have hsz : (⟨(bs[k]'(by omega)).toArray⟩ : ByteArray).size = (bs[k]'(by omega)).length := by simp [ByteArray.size]
      have H1 : Hid (((bs.take (k + 1)).map List.length).sum = ((bs.take k).map List.length).sum + (bs[k]'(by omega)).length) := h1
      clear h1 hc e3
      generalize ((bs.take k).map List.length).sum = tot at *
      generalize (⟨(bs[k]'(by omega)).toArray⟩ : ByteArray) = X at *
      generalize (bs[k]'(by omega)).length = xl at *
      go_wp2
      go_roundw
      case rel => exact ⟨k + 1, by omega, by go_num, by rw [H1.out]; go_num, by rw [H1.out]; omega, by first | rfl | trivial⟩
      case measure => simp [intOf]; omega
    · obtain rfl : k = n := by omega
      rw [HA.out] at *
      go_wp2
      go_ret
      exact ⟨rfl, rfl⟩
end Go.Proofs.Ytmebpalfjcejoaa
