/-
  The contracts of Row.hits and of near of the document's layer 18; no condition beyond those that each theorem states.
-/
import Derived.Test.YtbgmdjceecbbhaaDoorMode17
namespace Go.Proofs.YtbgmdjceecbbhaaDoor
open Go.RowKit Go.Rb
attribute [local irreducible] Go.wpQuiet

def rwv (x : Rw) (Ah : Option Addr) (ch : Nat) : Value := .agg #[.int .i64 x.r.n, .int .i64 x.r.a, .string (mk x.r.t), .slice Ah x.hs.length ch]
set_option maxRecDepth 20000 in
set_option maxHeartbeats 400000 in
theorem hits_any (x : Rw) (Ah : Option Addr) (ch B : Nat) (w : World) (hr : Rd w B 2 Ah x.hs.length (hts x.hs)) (hB : B ≤ w.heap.size) (hn : x.hs.length ≤ 1000) (ht : x.r.t.length ≤ 60) :
    Calls Tryd.prog 23 #[rwv x Ah ch] w fun e w' => ∃ v, e = .returned v ∧ Own w' 47 2 v x.g.length (hts x.g) ∧ (∀ k, v.ownBlock = some k → w.heap.size ≤ k) ∧ Below w.heap.size w w' := by
  obtain ⟨i0, hi0, hz0, hz1, hz2⟩ := info_parts infoH
  have HGD : Hid (∀ h, good x.r.t.length h = (decide (0 ≤ h.f) && decide (h.f ≤ h.t) && decide (h.t ≤ ((mk x.r.t).size : Int)))) := fun h => rfl
  unfold rwv Rw.g
  obtain ⟨⟨xn, xa, xt⟩, hs⟩ := x
  simp only at hr hn ht HGD ⊢
  have hts60 : (mk xt).size ≤ 60 := ht
  generalize good xt.length = gd at *
  generalize mk xt = TX at *
  obtain ⟨n, hl⟩ : ∃ n, hs.length = n := ⟨_, rfl⟩
  rw [hl] at hr hn ⊢
  have HL := Lib.hid hl
  have HBW := Lib.hid (below_al (Below.refl _ w) (.cells #[.int .i64 xn, .int .i64 xa, .string TX, .slice Ah n ch] 32))
  have HR1 := Lib.hid (Blk.new w 32 #[.int .i64 xn, .int .i64 xa, .string TX, .slice Ah n ch])
  have HSZ := Lib.hid (show (w.alloc (.cells #[.int .i64 xn, .int .i64 xa, .string TX, .slice Ah n ch] 32)).heap.size = w.heap.size + 1 by simp)
  have HRD := Lib.hid (hr.below (HBW.out.mono hB))
  clear hl hr ht
  go_enter Tryd.func23, Tryd.ntmps23
  go_wp2_with fail
  generalize w.alloc (.cells #[.int .i64 xn, .int .i64 xa, .string TX, .slice Ah n ch] 32) = W1 at *
  go_loopw [3, 4, 5] (fun ov iv _ wr => ∃ i : Nat, iv = .int .i64 i ∧ i ≤ n ∧ Hid (Own wr 47 2 ov ((hs.take i).filter gd).length (hts ((hs.take i).filter gd))) ∧ Hid (∀ k, ov.ownBlock = some k → W1.heap.size ≤ k) ∧ Hid (Below W1.heap.size W1 wr)) (fun _ iv _ _ => n - (intOf iv).toNat)
  case atStart => exact ⟨0, rfl, by omega, by show Own _ _ _ _ _ _; exact Own.nil_ _ _ _, fun k hk => by simp [Value.ownBlock] at hk, Below.refl _ _⟩
  case round =>
    obtain ⟨i, rfl, hi, hown, hok, hbw⟩ := hrel
    obtain ⟨Ao, co, rfl, -, -⟩ := hown.out.len_
    have HR2 := Lib.hid (HR1.out.below hbw.out (by have := HSZ.out; omega))
    have y2 := HR2.out.cell 2
    have y3 := HR2.out.cell 3
    have hg4 := HR2.out.lt
    simp only [List.getElem?_toArray, List.getElem?_cons_succ, List.getElem?_cons_zero] at y2 y3
    by_cases hlt : i < n
    · obtain ⟨pb, po, rfl, hpl, hcell⟩ := (HRD.out.below (hbw.out.mono (Nat.le_trans hB HBW.out.size))).2 (by omega)
      have a0 := hcell (i * 2 + 0) (by omega)
      have a1 := hcell (i * 2 + 1) (by omega)
      have hil : i < hs.length := by rw [HL.out]; exact hlt
      rw [hts_get hs i 0 hil (by decide), Nat.add_zero] at a0
      rw [hts_get hs i 1 hil (by decide), ← Nat.add_assoc] at a1
      have htk : (hs.take (i + 1)).filter gd = (hs.take i).filter gd ++ (if gd hs[i] then [hs[i]] else []) := by
        rw [List.take_add_one, List.getElem?_eq_getElem hil, List.filter_append]
        simp only [Option.toList_some, List.filter_cons, List.filter_nil]
      generalize hs[i] = h at *
      obtain ⟨f, u⟩ := h
      replace a0 : wr.cell? ⟨pb, po + i * 2, none⟩ = some (.int .i64 f) := a0
      replace a1 : wr.cell? ⟨pb, po + i * 2 + 1, none⟩ = some (.int .i64 u) := a1
      have hgd := HGD.out ⟨f, u⟩
      simp only at hgd
      have HTK := Lib.hid htk
      have HG := Lib.hid hgd
      have i1 : (i : Int) < (n : Int) := by omega
      have i2 : (0 : Int) ≤ (i : Int) := by omega
      have hpl2 : pb < wr.heap.size := by have := hbw.out.size; have := HSZ.out; omega
      have hll : ((hs.take i).filter gd).length ≤ 1000 := by
        have := List.length_filter_le gd (hs.take i)
        rw [List.length_take] at this
        omega
      clear hcell htk hgd
      obtain ⟨L, hL⟩ : ∃ L, (hs.take i).filter gd = L := ⟨_, rfl⟩
      rw [hL] at hown hok HTK hll ⊢
      clear hL
      by_cases d1 : 0 ≤ f
      · by_cases d2 : f ≤ u
        · by_cases d3 : u ≤ (TX.size : Int)
          · have e : gd ⟨f, u⟩ = true := by rw [HG.out]; simp; omega
            have HTN : Hid ((hs.take (i + 1)).filter gd = L ++ [(⟨f, u⟩ : Ht)]) := by show _ = _; rw [HTK.out, e]; simp
            have HOW2 := Lib.hid ((hown.out.alloc (.cells #[.int .i64 f, .int .i64 u] 47)).alloc (.cells #[.int .i64 f, .int .i64 u] 47))
            have hli := (Own.lit (wr.alloc (.cells #[.int .i64 f, .int .i64 u] 47)) 47 2 1 #[.int .i64 f, .int .i64 u] rfl (by decide)).rd
            rw [show (wr.alloc (.cells #[.int .i64 f, .int .i64 u] 47)).heap.size = wr.heap.size + 1 by simp] at hli
            have HLI := Lib.hid hli
            clear hli
            have HBB := Lib.hid (below_al (below_al hbw.out (.cells #[.int .i64 f, .int .i64 u] 47)) (.cells #[.int .i64 f, .int .i64 u] 47))
            clear e
            go_wp2_with (at_builtin; go_loud (refine wpList_append_rd _ rfl (.tmp 37) (.tmp 39) _ rfl 47 i0 _ 2 16 Tryd.underlying30 hi0 hz0 hz1 hz2 rfl (by omega) (.slice Ao L.length co) L.length (hts L) rfl (by exact HOW2.out) _ _ 1 1 [.int .i64 f, .int .i64 u] rfl (by exact HLI.out) (by intro v hv; simp at hv; rcases hv with rfl | rfl <;> rfl) (by simp only [maxLen]; omega) (by omega) _ rfl ?_; intro v4 w4 hown4 hgrow4 hat4))
            have hon4 : Below W1.heap.size W1 w4 := ((Only.of_below HBB.out).grown hgrow4 (fun k hk hlt => hok.out k hk)).below (Nat.le_refl _) (fun k h => h)
            have hk4 : ∀ k, v4.ownBlock = some k → W1.heap.size ≤ k := fun k hk => by
              rcases hat4 with h | h
              · exact hok.out k (h.symm.trans hk)
              · rw [h] at hk; injection hk with hk; have := hbw.out.size; rw [← hk]; simp; omega
            have HON4 := Lib.hid hon4
            have HK4 := Lib.hid hk4
            have HOWN4 : Hid (Own w4 47 2 v4 (L ++ [(⟨f, u⟩ : Ht)]).length (hts (L ++ [(⟨f, u⟩ : Ht)]))) := by
              show Own _ _ _ _ _ _
              rw [hts_append, List.length_append]; exact hown4
            clear hon4 hk4 hown4 hgrow4 hat4
            go_roundw
            case rel => exact ⟨i + 1, by go_num, by omega, by show Own _ _ _ _ _ _; rw [HTN.out]; exact HOWN4.out, HK4.out, HON4.out⟩
            case measure => simp [intOf]; omega
          · have e : gd ⟨f, u⟩ = false := by rw [HG.out]; simp; omega
            have HTN : Hid ((hs.take (i + 1)).filter gd = L) := by show _ = _; rw [HTK.out, e]; simp
            clear e
            go_wp2_with fail
            go_roundw
            case rel => exact ⟨i + 1, by go_num, by omega, by show Own _ _ _ _ _ _; rw [HTN.out]; exact hown.out.alloc _, hok.out, below_al hbw.out _⟩
            case measure => simp [intOf]; omega
        · have e : gd ⟨f, u⟩ = false := by rw [HG.out]; simp; omega
          have HTN : Hid ((hs.take (i + 1)).filter gd = L) := by show _ = _; rw [HTK.out, e]; simp
          clear e
          go_wp2_with fail
          go_roundw
          case rel => exact ⟨i + 1, by go_num, by omega, by show Own _ _ _ _ _ _; rw [HTN.out]; exact hown.out.alloc _, hok.out, below_al hbw.out _⟩
          case measure => simp [intOf]; omega
      · have e : gd ⟨f, u⟩ = false := by rw [HG.out]; simp; omega
        have HTN : Hid ((hs.take (i + 1)).filter gd = L) := by show _ = _; rw [HTK.out, e]; simp
        clear e
        go_wp2_with fail
        go_roundw
        case rel => exact ⟨i + 1, by go_num, by omega, by show Own _ _ _ _ _ _; rw [HTN.out]; exact hown.out.alloc _, hok.out, below_al hbw.out _⟩
        case measure => simp [intOf]; omega
    · obtain rfl : i = n := by omega
      have e : hs.take i = hs := List.take_of_length_le (by rw [HL.out]; exact Nat.le_refl _)
      rw [e] at hown hok ⊢
      have HK : Hid (∀ k, (Value.slice Ao (hs.filter gd).length co).ownBlock = some k → w.heap.size ≤ k) := fun k hk => by have := hok.out k hk; have := HSZ.out; omega
      clear e
      go_wp2_with fail
      go_ret
      exact ⟨_, rfl, hown.out, HK.out, HBW.out.trans (hbw.out.mono HBW.out.size)⟩
end Go.Proofs.YtbgmdjceecbbhaaDoor
