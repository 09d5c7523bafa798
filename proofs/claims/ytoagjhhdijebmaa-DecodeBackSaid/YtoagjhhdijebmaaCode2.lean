/-
  Contracts of code.Put and of reedbedref01.Put; no condition beyond those that each theorem states.
-/
import Derived.Test.YtoagjhhdijebmaaCode1
namespace Go.Proofs.Ytoagjhhdijebmaa
open Go.RowKit Go.Rb

theorem info5 : (Try.prog.info? 5).map (fun i => (i.zero, i.size, i.bytes)) = some (some (.int .u8 0), 1, 1) := by kernel_rfl

def bV (c : UInt8) : Value := .int .u8 (c.toNat : Int)
/-- A byte of a number. -/
def by_ (n : Int) : UInt8 := UInt8.ofNat n.toNat
theorem bV_by (n : Int) (h0 : 0 ≤ n) (h1 : n < 256) : bV (by_ n) = .int .u8 n := by
  unfold bV by_
  have : (UInt8.ofNat n.toNat).toNat = n.toNat := by
    simp only [UInt8.toNat_ofNat']
    omega
  rw [this]
  congr 1
  omega

/-- The octets of a code point. -/
def put2 (r : Int) : List UInt8 := [by_ (192 + r / 64), by_ (128 + r % 64)]
def put3 (r : Int) : List UInt8 := [by_ (224 + r / 4096), by_ (128 + r / 64 % 64), by_ (128 + r % 64)]
def put4 (r : Int) : List UInt8 := [by_ (240 + r / 262144), by_ (128 + r / 4096 % 64), by_ (128 + r / 64 % 64), by_ (128 + r % 64)]
def putV (r : Int) : List UInt8 := if r < 128 then [by_ r] else if r < 2048 then put2 r else if r < 65536 then put3 r else put4 r
def putL (r : Int) : List UInt8 := putV (if isB r = true then r else 65533)

/-- A new slice of octets: its own, all of it new. -/
def NewB (w w' : World) (v : Value) (bs : List UInt8) : Prop :=
  Own w' 5 1 v bs.length (bs.map bV) ∧ Below w.heap.size w w' ∧ ∀ k, v.ownBlock = some k → w.heap.size ≤ k
def RetNewB (w : World) (bs : List UInt8) (e : Ending) (w' : World) : Prop := ∃ v, e = .returned v ∧ NewB w w' v bs

set_option maxHeartbeats 1000000 in
theorem codePut_2 (r : Int) (w : World) (hb : isB r = true) (h2 : 128 ≤ r) (h3 : r < 2048) (hs : sizeI r = 2) : Calls Try.prog 30 #[.int .i64 r] w (RetNewB w (put2 r)) := by
  obtain ⟨i0, hi0, hz0, hz1, hz2⟩ := info_parts info5
  have hc := codeIs_any r
  have hd := codeSize_any r
  rw [hb] at hc
  rw [hs] at hd
  have HC := Lib.hid hc
  have HD := Lib.hid hd
  clear hc hd hb hs
  have q0 : IntKind.i64.wrap 0 = 0 := by decide
  have q1 : IntKind.i64.wrap 1 = 1 := by decide
  have q2 : IntKind.i64.wrap 2 = 2 := by decide
  have q4 : IntKind.i64.wrap 3 = 3 := by decide
  have q3 : IntKind.i64.wrap 6 = 6 := by decide
  go_enter Try.func30, Try.ntmps30
  go_wp2_with (first
    | (go_at_call 40; refine (HC.out _).mono ?_; rintro e w' ⟨rfl, rfl⟩)
    | (go_at_call 41; refine (HD.out _).mono ?_; rintro e w' ⟨rfl, rfl⟩))
  go_region_held3 (fun _ => True) (trivial) (fail)
  go_wp2_with (first
    | (at_builtin; refine wpList_append_mine _ rfl (.tmp 47) (.tmp 52) _ rfl 5 i0 _ 1 1 Try.underlying22 hi0 hz0 hz1 hz2 rfl (by omega) (.slice (some ⟨w.heap.size, 0, none⟩) 1 1) 1 _ rfl
        (by exact Own.of_heap ((Own.lit w 5 1 1 #[.int .u8 (192 + r / 64)] rfl (by decide)).alloc _) rfl) _ 1 1 [_] rfl rfl (by exact news_push rfl (by simp)) (by simp [Value.oneCell']) (by omega) (by decide) (by decide) _ rfl ?_;
       intro g1 o1 c1 w1 hown1 hgrow1 hat1))
  go_ret
  have hb1 : Below w.heap.size w w1 := Below.grown (by exact (((Below.refl _ w).alloc (Nat.le_refl _) _).alloc (by simp) _).drew) hgrow1 (by simp; omega) (by simp [Value.ownBlock])
  have hg1 : w.heap.size ≤ g1 := by simp [Value.ownBlock] at hat1; omega
  have e0 := bV_by (192 + r / 64) (by omega) (by omega)
  have e1 := bV_by (128 + r % 64) (by omega) (by omega)
  exact ⟨_, rfl, by simpa [put2, e0, e1] using hown1, hb1, by simp [Value.ownBlock]; omega⟩

set_option maxHeartbeats 1000000 in
theorem codePut_3 (r : Int) (w : World) (hb : isB r = true) (h2 : 2048 ≤ r) (h3 : r < 65536) (hs : sizeI r = 3) : Calls Try.prog 30 #[.int .i64 r] w (RetNewB w (put3 r)) := by
  obtain ⟨i0, hi0, hz0, hz1, hz2⟩ := info_parts info5
  have hc := codeIs_any r
  have hd := codeSize_any r
  rw [hb] at hc
  rw [hs] at hd
  have HC := Lib.hid hc
  have HD := Lib.hid hd
  clear hc hd hb hs
  have q0 : IntKind.i64.wrap 0 = 0 := by decide
  have q1 : IntKind.i64.wrap 1 = 1 := by decide
  have q2 : IntKind.i64.wrap 2 = 2 := by decide
  have q4 : IntKind.i64.wrap 3 = 3 := by decide
  have q3 : IntKind.i64.wrap 12 = 12 := by decide
  go_enter Try.func30, Try.ntmps30
  go_wp2_with (first
    | (go_at_call 40; refine (HC.out _).mono ?_; rintro e w' ⟨rfl, rfl⟩)
    | (go_at_call 41; refine (HD.out _).mono ?_; rintro e w' ⟨rfl, rfl⟩))
  go_region_held3 (fun _ => True) (trivial) (fail)
  go_wp2_with (first
    | (at_builtin; refine wpList_append_mine _ rfl (.tmp 39) (.tmp 45) _ rfl 5 i0 _ 1 1 Try.underlying22 hi0 hz0 hz1 hz2 rfl (by omega) (.slice (some ⟨w.heap.size, 0, none⟩) 1 1) 1 _ rfl
        (by exact Own.of_heap ((Own.lit w 5 1 1 #[.int .u8 (224 + r / 4096)] rfl (by decide)).alloc _) rfl) _ 1 1 [_] rfl rfl (by exact news_push rfl (by simp)) (by simp [Value.oneCell']) (by omega) (by decide) (by decide) _ rfl ?_;
       intro g1 o1 c1 w1 hown1 hgrow1 hat1)
    | (at_builtin; refine wpList_append_mine _ rfl (.tmp 47) (.tmp 52) _ rfl 5 i0 _ 1 1 Try.underlying22 hi0 hz0 hz1 hz2 rfl (by omega) (.slice (some ⟨g1, o1, none⟩) 2 c1) 2 _ rfl
        (by exact Own.of_heap (hown1.alloc _) rfl) _ 1 1 [_] rfl rfl (by exact news_push rfl (by simp)) (by simp [Value.oneCell']) (by omega) (by decide) (by decide) _ rfl ?_;
       intro g2 o2 c2 w2 hown2 hgrow2 hat2))
  go_ret
  have hb1 : Below w.heap.size w w1 := Below.grown (by exact (((Below.refl _ w).alloc (Nat.le_refl _) _).alloc (by simp) _).drew) hgrow1 (by simp; omega) (by simp [Value.ownBlock])
  have hg1 : w.heap.size ≤ g1 := by simp [Value.ownBlock] at hat1; omega
  have hb2 : Below w.heap.size w w2 := Below.grown (by exact hb1.alloc hb1.size _) hgrow2 (by have := hb1.size; simp; omega) (by simp [Value.ownBlock]; omega)
  have hg2 : w.heap.size ≤ g2 := by have := hb1.size; simp [Value.ownBlock] at hat2; omega
  have e0 := bV_by (224 + r / 4096) (by omega) (by omega)
  have e1 := bV_by (128 + r / 64 % 64) (by omega) (by omega)
  have e2 := bV_by (128 + r % 64) (by omega) (by omega)
  exact ⟨_, rfl, by simpa [put3, e0, e1, e2] using hown2, hb2, by simp [Value.ownBlock]; omega⟩

set_option maxHeartbeats 1000000 in
theorem codePut_4 (r : Int) (w : World) (hb : isB r = true) (h2 : 65536 ≤ r) (h3 : r < 1114112) (hs : sizeI r = 4) : Calls Try.prog 30 #[.int .i64 r] w (RetNewB w (put4 r)) := by
  obtain ⟨i0, hi0, hz0, hz1, hz2⟩ := info_parts info5
  have hc := codeIs_any r
  have hd := codeSize_any r
  rw [hb] at hc
  rw [hs] at hd
  have HC := Lib.hid hc
  have HD := Lib.hid hd
  clear hc hd hb hs
  have q0 : IntKind.i64.wrap 0 = 0 := by decide
  have q1 : IntKind.i64.wrap 1 = 1 := by decide
  have q2 : IntKind.i64.wrap 2 = 2 := by decide
  have q4 : IntKind.i64.wrap 3 = 3 := by decide
  have q3 : IntKind.i64.wrap 18 = 18 := by decide
  go_enter Try.func30, Try.ntmps30
  go_wp2_with (first
    | (go_at_call 40; refine (HC.out _).mono ?_; rintro e w' ⟨rfl, rfl⟩)
    | (go_at_call 41; refine (HD.out _).mono ?_; rintro e w' ⟨rfl, rfl⟩))
  go_region_held3 (fun _ => True) (trivial) (fail)
  go_wp2_with (first
    | (at_builtin; refine wpList_append_mine _ rfl (.tmp 31) (.tmp 37) _ rfl 5 i0 _ 1 1 Try.underlying22 hi0 hz0 hz1 hz2 rfl (by omega) (.slice (some ⟨w.heap.size, 0, none⟩) 1 1) 1 _ rfl
        (by exact Own.of_heap ((Own.lit w 5 1 1 #[.int .u8 (240 + r / 262144)] rfl (by decide)).alloc _) rfl) _ 1 1 [_] rfl rfl (by exact news_push rfl (by simp)) (by simp [Value.oneCell']) (by omega) (by decide) (by decide) _ rfl ?_;
       intro g1 o1 c1 w1 hown1 hgrow1 hat1)
    | (at_builtin; refine wpList_append_mine _ rfl (.tmp 39) (.tmp 45) _ rfl 5 i0 _ 1 1 Try.underlying22 hi0 hz0 hz1 hz2 rfl (by omega) (.slice (some ⟨g1, o1, none⟩) 2 c1) 2 _ rfl
        (by exact Own.of_heap (hown1.alloc _) rfl) _ 1 1 [_] rfl rfl (by exact news_push rfl (by simp)) (by simp [Value.oneCell']) (by omega) (by decide) (by decide) _ rfl ?_;
       intro g2 o2 c2 w2 hown2 hgrow2 hat2)
    | (at_builtin; refine wpList_append_mine _ rfl (.tmp 47) (.tmp 52) _ rfl 5 i0 _ 1 1 Try.underlying22 hi0 hz0 hz1 hz2 rfl (by omega) (.slice (some ⟨g2, o2, none⟩) 3 c2) 3 _ rfl
        (by exact Own.of_heap (hown2.alloc _) rfl) _ 1 1 [_] rfl rfl (by exact news_push rfl (by simp)) (by simp [Value.oneCell']) (by omega) (by decide) (by decide) _ rfl ?_;
       intro g3 o3 c3 w3 hown3 hgrow3 hat3))
  go_ret
  have hb1 : Below w.heap.size w w1 := Below.grown (by exact (((Below.refl _ w).alloc (Nat.le_refl _) _).alloc (by simp) _).drew) hgrow1 (by simp; omega) (by simp [Value.ownBlock])
  have hg1 : w.heap.size ≤ g1 := by simp [Value.ownBlock] at hat1; omega
  have hb2 : Below w.heap.size w w2 := Below.grown (by exact hb1.alloc hb1.size _) hgrow2 (by have := hb1.size; simp; omega) (by simp [Value.ownBlock]; omega)
  have hg2 : w.heap.size ≤ g2 := by have := hb1.size; simp [Value.ownBlock] at hat2; omega
  have hb3 : Below w.heap.size w w3 := Below.grown (by exact hb2.alloc hb2.size _) hgrow3 (by have := hb2.size; simp; omega) (by simp [Value.ownBlock]; omega)
  have hg3 : w.heap.size ≤ g3 := by have := hb2.size; simp [Value.ownBlock] at hat3; omega
  have e0 := bV_by (240 + r / 262144) (by omega) (by omega)
  have e1 := bV_by (128 + r / 4096 % 64) (by omega) (by omega)
  have e2 := bV_by (128 + r / 64 % 64) (by omega) (by omega)
  have e3 := bV_by (128 + r % 64) (by omega) (by omega)
  exact ⟨_, rfl, by simpa [put4, e0, e1, e2, e3] using hown3, hb3, by simp [Value.ownBlock]; omega⟩

set_option maxHeartbeats 1000000 in
theorem codePut_1 (r : Int) (w : World) (hb : isB r = true) (h2 : 0 ≤ r) (h3 : r < 128) (hs : sizeI r = 1) : Calls Try.prog 30 #[.int .i64 r] w (RetNewB w [by_ r]) := by
  have hc := codeIs_any r
  have hd := codeSize_any r
  rw [hb] at hc
  rw [hs] at hd
  have HC := Lib.hid hc
  have HD := Lib.hid hd
  clear hc hd hb hs
  go_enter Try.func30, Try.ntmps30
  go_wp2_with (first
    | (go_at_call 40; refine (HC.out _).mono ?_; rintro e w' ⟨rfl, rfl⟩)
    | (go_at_call 41; refine (HD.out _).mono ?_; rintro e w' ⟨rfl, rfl⟩))
  go_ret
  have e0 := bV_by r (by omega) (by omega)
  exact ⟨_, rfl, by have := Own.lit w 5 1 1 #[.int .u8 r] rfl (by decide); simpa [e0] using this, (Below.refl _ _).alloc (Nat.le_refl _) _, by simp [Value.ownBlock]⟩

theorem codePut_valid (r : Int) (w : World) (hb : isB r = true) : Calls Try.prog 30 #[.int .i64 r] w (RetNewB w (putV r)) := by
  rcases size_cases r with ⟨hb', hs⟩ | ⟨_, h0, h1, ⟨h2, hs⟩ | ⟨h2, h3, hs⟩ | ⟨h2, h3, hs⟩ | ⟨h2, hs⟩⟩
  · rw [hb] at hb'; cases hb'
  · have := codePut_1 r w hb h0 h2 hs
    rwa [show putV r = [by_ r] by unfold putV; rw [if_pos h2]]
  · have := codePut_2 r w hb h2 h3 hs
    rwa [show putV r = put2 r by unfold putV; rw [if_neg (by omega), if_pos h3]]
  · have := codePut_3 r w hb h2 h3 hs
    rwa [show putV r = put3 r by unfold putV; rw [if_neg (by omega), if_neg (by omega), if_pos h3]]
  · have := codePut_4 r w hb h2 (by omega) hs
    rwa [show putV r = put4 r by unfold putV; rw [if_neg (by omega), if_neg (by omega), if_neg (by omega)]]
set_option maxHeartbeats 1000000 in
theorem codePut_wrong (r : Int) (w : World) (hb : isB r = false) : Calls Try.prog 30 #[.int .i64 r] w (RetNewB w (put3 65533)) := by
  obtain ⟨i0, hi0, hz0, hz1, hz2⟩ := info_parts info5
  have hc := codeIs_any r
  have hd := codeSize_any 65533
  rw [hb] at hc
  rw [show sizeI 65533 = 3 by decide] at hd
  have HC := Lib.hid hc
  have HD := Lib.hid hd
  clear hc hd hb
  have q0 : IntKind.i64.wrap 0 = 0 := by decide
  have q1 : IntKind.i64.wrap 1 = 1 := by decide
  have q2 : IntKind.i64.wrap 2 = 2 := by decide
  have q4 : IntKind.i64.wrap 3 = 3 := by decide
  have q3 : IntKind.i64.wrap 12 = 12 := by decide
  go_enter Try.func30, Try.ntmps30
  go_wp2_with (first
    | (go_at_call 40; refine (HC.out _).mono ?_; rintro e w' ⟨rfl, rfl⟩)
    | (go_at_call 41; refine (HD.out _).mono ?_; rintro e w' ⟨rfl, rfl⟩))
  go_region_held3 (fun _ => True) (trivial) (fail)
  go_wp2_with (first
    | (at_builtin; refine wpList_append_mine _ rfl (.tmp 39) (.tmp 45) _ rfl 5 i0 _ 1 1 Try.underlying22 hi0 hz0 hz1 hz2 rfl (by omega) (.slice (some ⟨w.heap.size, 0, none⟩) 1 1) 1 _ rfl
        (by exact Own.of_heap ((Own.lit w 5 1 1 #[.int .u8 239] rfl (by decide)).alloc _) rfl) _ 1 1 [_] rfl rfl (by exact news_push rfl (by simp)) (by simp [Value.oneCell']) (by omega) (by decide) (by decide) _ rfl ?_;
       intro g1 o1 c1 w1 hown1 hgrow1 hat1)
    | (at_builtin; refine wpList_append_mine _ rfl (.tmp 47) (.tmp 52) _ rfl 5 i0 _ 1 1 Try.underlying22 hi0 hz0 hz1 hz2 rfl (by omega) (.slice (some ⟨g1, o1, none⟩) 2 c1) 2 _ rfl
        (by exact Own.of_heap (hown1.alloc _) rfl) _ 1 1 [_] rfl rfl (by exact news_push rfl (by simp)) (by simp [Value.oneCell']) (by omega) (by decide) (by decide) _ rfl ?_;
       intro g2 o2 c2 w2 hown2 hgrow2 hat2))
  go_ret
  have hb1 : Below w.heap.size w w1 := Below.grown (by exact (((Below.refl _ w).alloc (Nat.le_refl _) _).alloc (by simp) _).drew) hgrow1 (by simp; omega) (by simp [Value.ownBlock])
  have hg1 : w.heap.size ≤ g1 := by simp [Value.ownBlock] at hat1; omega
  have hb2 : Below w.heap.size w w2 := Below.grown (by exact hb1.alloc hb1.size _) hgrow2 (by have := hb1.size; simp; omega) (by simp [Value.ownBlock]; omega)
  have hg2 : w.heap.size ≤ g2 := by have := hb1.size; simp [Value.ownBlock] at hat2; omega
  have e0 := bV_by 239 (by omega) (by omega)
  have e1 := bV_by 191 (by omega) (by omega)
  have e2 := bV_by 189 (by omega) (by omega)
  exact ⟨_, rfl, by simpa [put3, e0, e1, e2] using hown2, hb2, by simp [Value.ownBlock]; omega⟩

theorem codePut_any (r : Int) (w : World) : Calls Try.prog 30 #[.int .i64 r] w (RetNewB w (putL r)) := by
  unfold putL
  cases hb : isB r
  · have := codePut_wrong r w hb
    simpa [putV] using this
  · have := codePut_valid r w hb
    simpa using this
end Go.Proofs.Ytoagjhhdijebmaa
