/-
  The contracts of the pool's functions New and Bytes; no condition beyond those that each theorem states.
-/
import Derived.Test.YtmebpalfjcejoaaPool4
import Derived.Lib.AppendZeros
namespace Go.Proofs.Ytmebpalfjcejoaa
open Go.RowKit Go.Rb

set_option maxHeartbeats 1000000 in
theorem new_bad (n z : Int) (w : World) (hb : n < 1 ∨ 64 < n ∨ z < 1 ∨ 4096 < z) :
    Calls Try.prog 9 #[.int .i64 n, .int .i64 z] w fun e w' => e = .returned (.tuple #[.pointer none, .int .i64 2]) ∧ w = w' := by
  by_cases h1 : n < 1
  · clear hb
    go_enter Try.func9, Try.ntmps9
    go_wp2
    go_ret2
    exact ⟨rfl, rfl⟩
  · by_cases h2 : 64 < n
    · clear hb
      go_enter Try.func9, Try.ntmps9
      go_wp2
      go_ret2
      exact ⟨rfl, rfl⟩
    · by_cases h3 : z < 1
      · clear hb
        go_enter Try.func9, Try.ntmps9
        go_wp2
        go_ret2
        exact ⟨rfl, rfl⟩
      · have h4 : 4096 < z := by omega
        clear hb
        go_enter Try.func9, Try.ntmps9
        go_wp2
        go_ret2
        exact ⟨rfl, rfl⟩

theorem infoBuf : (Try.prog.info? 65).map (fun i => (i.zero, i.size, i.bytes)) = some (some (.agg #[.slice none 0 0, .int .i64 0]), 2, 32) := by kernel_rfl

theorem rep_init (n z : Nat) (w : World) (h2 : n ≤ 64) (h4 : z ≤ 4096) :
    RepA ((w.alloc (.cells (madeCells #[.slice none 0 0, .int .i64 0] (n * 2)) 65)).alloc (.cells #[.slice (some ⟨w.heap.size, 0, none⟩) n n, .slice none 0 0, .int .i64 (z : Int)] 63))
      (fun q => w.heap.size ≤ q ∧ q < ((w.alloc (.cells (madeCells #[.slice none 0 0, .int .i64 0] (n * 2)) 65)).alloc (.cells #[.slice (some ⟨w.heap.size, 0, none⟩) n n, .slice none 0 0, .int .i64 (z : Int)] 63)).heap.size)
      (w.heap.size + 1) w.heap.size (.slice none 0 0) (fun _ => .slice none 0 0) ⟨List.replicate n 0, List.replicate n [], [], z⟩ := by
  have b2 := Blk.new (w.alloc (.cells (madeCells #[.slice none 0 0, .int .i64 0] (n * 2)) 65)) 63 #[.slice (some ⟨w.heap.size, 0, none⟩) n n, .slice none 0 0, .int .i64 (z : Int)]
  have e : (w.alloc (.cells (madeCells #[.slice none 0 0, .int .i64 0] (n * 2)) 65)).heap.size = w.heap.size + 1 := by simp
  rw [e] at b2
  have b1 := (Blk.new w 65 (madeCells #[.slice none 0 0, .int .i64 0] (n * 2))).alloc (.cells #[.slice (some ⟨w.heap.size, 0, none⟩) n n, .slice none 0 0, .int .i64 (z : Int)] 63)
  refine ⟨by simpa [nV] using b2, ⟨_, b1, by simp [madeCells], fun i hi => ?_⟩, by simp, fun i hi => ?_, Own.nil_ _ _ _, by simp, by simp <;> omega, by simp [Value.ownBlock], by simp [Value.ownBlock], fun k hk => hk.2, by simpa using h2, h4⟩
  · have hi' : i < n := by simpa using hi
    have m0 : i * 2 % 2 = 0 := by omega
    have m1 : (i * 2 + 1) % 2 = 1 := by omega
    have l0 : i * 2 < n * 2 := by omega
    have l1 : i * 2 + 1 < n * 2 := by omega
    simp [madeCells, l0, l1, m0, m1, List.getD, hi', nV]
  · have hi' : i < n := by simpa using hi
    have : (List.replicate n ([] : List UInt8)).getD i [] = [] := by simp [List.getD, hi']
    rw [this]
    exact Own.nil_ _ _ _

set_option maxHeartbeats 2000000 in
theorem new_ok (n z : Nat) (w : World) (h1 : 1 ≤ n) (h2 : n ≤ 64) (h3 : 1 ≤ z) (h4 : z ≤ 4096) :
    Calls Try.prog 9 #[.int .i64 (n : Int), .int .i64 (z : Int)] w fun e w' => ∃ p S, e = .returned (.tuple #[pp p, .int .i64 0]) ∧ Below w.heap.size w w' ∧ Rep w' S p (newS n z) ∧ ∀ k, S k → w.heap.size ≤ k := by
  obtain ⟨i0, hi0, hz0, hz1, hz2⟩ := info_parts info3
  have i1 : ¬ (n : Int) < 1 := by omega
  have i2 : ¬ (64 : Int) < (n : Int) := by omega
  have i3 : ¬ (z : Int) < 1 := by omega
  have i4 : ¬ (4096 : Int) < (z : Int) := by omega
  have km : ∀ W : World, (Instr.makeSlice 61 (.int .i64 (n : Int)) (.int .i64 (n : Int))).run Try.prog W = .ok (.slice (some ⟨W.heap.size, 0, none⟩) n n) (W.alloc (.cells (madeCells #[.slice none 0 0, .int .i64 0] (n * 2)) 65)) := by
    intro W
    obtain ⟨i0, hi0, hz0, hz1, hz2⟩ := info_parts infoBuf
    have := run_make (P := Try.prog) W 61 65 i0 _ Try.underlying61 hi0 hz0 .i64 .i64 n n (by omega) (by omega) (by rw [hz2]; omega) (by omega)
    rw [hz1] at this
    simp only [Int.toNat_natCast] at this
    exact this
  have hinit := rep_init n z w h2 h4
  have hbel : Below w.heap.size w ((w.alloc (.cells (madeCells #[.slice none 0 0, .int .i64 0] (n * 2)) 65)).alloc (.cells #[.slice (some ⟨w.heap.size, 0, none⟩) n n, .slice none 0 0, .int .i64 (z : Int)] 63)) := below_al (below_al (Below.refl _ w) _) _
  have HI := Lib.hid hinit
  have HB := Lib.hid hbel
  clear hinit hbel
  go_enter Try.func9, Try.ntmps9
  go_wp2
  go_loopw [28] (fun i wr => ∃ (k : Nat) (lv : Value), k ≤ n ∧ i = .int .i64 k ∧ Below w.heap.size w wr ∧ RepA wr (fun q => w.heap.size ≤ q ∧ q < wr.heap.size) (w.heap.size + 1) w.heap.size lv (fun _ => .slice none 0 0) ⟨List.replicate n 0, List.replicate n [], List.range k, z⟩) (fun i _ => n - (intOf i).toNat)
  case atStart => exact ⟨0, _, by omega, rfl, HB.out, HI.out⟩
  case round =>
    obtain ⟨k, lv, hk, rfl, hbw, hrep⟩ := hrel
    by_cases hlt : k < n
    · have i5 : (k : Int) < (n : Int) := by omega
      have c1 := hrep.c1
      have hlo := hrep.lo
      simp only [List.length_range] at hlo
      obtain ⟨A, cap, rfl, -, -⟩ := hlo.len_
      have key : Hid (∀ w4 g o c, Own w4 3 1 (.slice (some ⟨g, o, none⟩) (k + 1) c) (k + 1) ((List.range k).map nV ++ [nV k]) →
          (wr.alloc (.cells #[.int .i64 (k : Int)] 3)).grownBy w4 (Value.slice A k cap).ownBlock → ((Value.slice A k cap).ownBlock = some g ∨ g = wr.heap.size + 1) →
          w4.cell? ⟨w.heap.size + 1, 1, none⟩ = some (.slice A k cap) ∧ w4.frozen? ⟨w.heap.size + 1, 1, none⟩ = false ∧
          Hid (Below w.heap.size w (w4.setCell ⟨w.heap.size + 1, 1, none⟩ (.slice (some ⟨g, o, none⟩) (k + 1) c)) ∧
            RepA (w4.setCell ⟨w.heap.size + 1, 1, none⟩ (.slice (some ⟨g, o, none⟩) (k + 1) c)) (fun q => w.heap.size ≤ q ∧ q < (w4.setCell ⟨w.heap.size + 1, 1, none⟩ (.slice (some ⟨g, o, none⟩) (k + 1) c)).heap.size) (w.heap.size + 1) w.heap.size (.slice (some ⟨g, o, none⟩) (k + 1) c) (fun _ => .slice none 0 0) ⟨List.replicate n 0, List.replicate n [], List.range (k + 1), z⟩)) := by
        intro w4 g o c hown hgrow hat
        have R3 := hrep.frame (T := fun q => wr.heap.size ≤ q) ((Only.refl _ _).alloc (.cells #[.int .i64 (k : Int)] 3)) (fun kk hkk => by omega)
        have hg : g < w4.heap.size := hown.lt rfl
        have hgs := hgrow.size
        have hws := hbw.size
        have R4 := R3.push (S' := fun q => w.heap.size ≤ q ∧ q < (w4.setCell ⟨w.heap.size + 1, 1, none⟩ (.slice (some ⟨g, o, none⟩) (k + 1) c)).heap.size) hgrow (.slice (some ⟨g, o, none⟩) (k + 1) c) (List.range (k + 1)) (by simpa [List.range_succ] using hown)
          (fun kk hkk => by
            have e : g = kk := by simpa [Value.ownBlock] using hkk
            subst e
            refine ⟨?_, by simpa [World.setCell] using hg⟩
            rcases hat with hat | hat
            · exact (hrep.sl _ hat).1
            · omega)
          (fun q hq => ⟨hq.1, by have := R3.lt q hq; simp [World.setCell] at *; omega⟩)
          (fun q hq => by simpa [World.setCell] using hq.2)
        have hpb := R3.pb.grown hgrow (fun e => own_ne_blk R3.lo R3.pb (by decide) e.symm)
        refine ⟨by rw [hpb.cell]; rfl, hpb.frozen 1, ?_, R4⟩
        exact (Below.grown (hbw.alloc hws _) hgrow (by simp; omega) (fun g hg => (hrep.sl g hg).1)).setCell (by simp) _
      have HO := Lib.hid hlo
      have hB := Lib.hid hbw.size
      clear hrep hlo hbw
      go_wp2_with (at_builtin; refine wpList_append_mine _ rfl (.tmp 35) (.tmp 37) _ rfl 3 i0 _ 1 8 Try.underlying30 hi0 hz0 hz1 hz2 rfl (by omega) (.slice A k cap) k ((List.range k).map nV) rfl (by exact HO.out.alloc _) _ 1 1 [_] rfl rfl (by exact news_push rfl rfl) (by simp [Value.oneCell']) (by omega) (by simp only [maxLen]; omega) (by omega) _ rfl ?_; intro g2 o2 c2 w2 hown2 hgrow2 hat2; obtain ⟨cc, ff, HK⟩ := key.out w2 g2 o2 c2 hown2 hgrow2 (by rcases hat2 with h | h; exact .inl h; right; rw [h]; simp); clear hown2 hgrow2 hat2)
      go_roundw
      case rel => exact ⟨k + 1, _, by omega, by go_num, HK.out.1, HK.out.2⟩
      case measure => simp [intOf]; omega
    · obtain rfl : k = n := by omega
      have HR := Lib.hid hrep
      have HB2 := Lib.hid hbw
      clear hrep hbw
      go_wp2
      go_ret2
      exact ⟨_, _, rfl, HB2.out, ⟨_, _, _, HR.out⟩, fun q hq => hq.1⟩

theorem sum_step (l : List (List UInt8)) (k : Nat) (hk : k < l.length) : ((l.take (k + 1)).map List.length).sum = ((l.take k).map List.length).sum + (l.getD k []).length := by
  rw [List.take_succ_eq_append_getElem hk, List.map_append, List.sum_append]
  simp [List.getD, hk]

set_option maxHeartbeats 2000000 in
theorem bytes_any {S : Nat → Prop} {p : Nat} {s : PS} (w : World) (hR : Rep w S p s) (hb : ∀ i, (s.bs.getD i []).length ≤ 5000) :
    Calls Try.prog 15 #[pp p] w fun e w' => e = .returned (.int .i64 (bytesO s : Nat)) ∧ Below w.heap.size w w' := by
  obtain ⟨ga, lv, vs, h⟩ := hR
  have c0 := h.c0
  have nn := h.nn
  have hbl := h.bl
  have hg := h.lt _ h.sa
  have hcell : ∀ i, i < s.hs.length → ∃ A c, vs i = .slice A (s.bs.getD i []).length c ∧ w.cell? ⟨ga, i * 2, none⟩ = some (vs i) ∧ w.cell? ⟨ga, i * 2 + 1, none⟩ = some (.int .i64 (s.hs.getD i 0 : Nat)) := by
    intro i hi
    obtain ⟨A, c, hv, -, -⟩ := (h.bo i hi).len_
    exact ⟨A, c, hv, h.cb hi, h.ch hi⟩
  unfold bytesO
  have hstep := sum_step s.bs
  have hall : s.bs.take s.hs.length = s.bs := List.take_of_length_le (by omega)
  clear h
  generalize hbs : s.bs = bs at *
  generalize s.hs.length = n at *
  have HC := Lib.hid hcell
  have HS := Lib.hid hstep
  have HB := Lib.hid hb
  have HA := Lib.hid hall
  clear hcell hstep hb hall
  unfold pp
  go_enter Try.func15, Try.ntmps15
  go_wp2
  go_loopw [3, 11] (fun t i wr => ∃ k : Nat, k ≤ n ∧ i = .int .i64 k ∧ t = .int .i64 ((((bs.take k).map List.length).sum : Nat) : Int) ∧ ((bs.take k).map List.length).sum ≤ 5000 * k ∧ Below w.heap.size w wr) (fun _ i _ => n - (intOf i).toNat)
  case atStart => exact ⟨0, by omega, rfl, rfl, by simp, Below.refl _ w⟩
  case round =>
    obtain ⟨k, hk, rfl, rfl, hle, hbw⟩ := hrel
    by_cases hlt : k < n
    · have i5 : (k : Int) < (n : Int) := by omega
      obtain ⟨A, c, hv, ca, cb⟩ := HC.out k hlt
      rw [hv] at ca
      have ca' := (hbw.cell (p := ⟨ga, k * 2, none⟩) hg).trans ca
      have cb' := (hbw.cell (p := ⟨ga, k * 2 + 1, none⟩) hg).trans cb
      have h1 := HS.out k (by omega)
      have h2 := HB.out k
      have H1 : Hid (((bs.take (k + 1)).map List.length).sum = ((bs.take k).map List.length).sum + (bs.getD k []).length) := h1
      have HB2 := Lib.hid hbw
      clear ca cb h1 hbw
      generalize ((bs.take k).map List.length).sum = tot at *
      generalize (bs.getD k []).length = xl at *
      go_wp2
      go_roundw
      case rel => exact ⟨k + 1, by omega, by go_num, by rw [H1.out]; go_num, by rw [H1.out]; omega, below_al HB2.out _⟩
      case measure => simp [intOf]; omega
    · obtain rfl : k = n := by omega
      rw [HA.out] at *
      go_wp2
      go_ret
      exact ⟨rfl, hbw⟩
end Go.Proofs.Ytmebpalfjcejoaa
