/-
  The contract of Lines of the document's layer 18, but by TellAll; no condition beyond those that each theorem states.
-/
import Derived.Test.YtbgmdjceecbbhaaDoorRefL3
import Derived.Test.YtbgmdjceecbbhaaDoorFirst1
namespace Go.Proofs.YtbgmdjceecbbhaaDoor
open Go.RowKit Go.Rb
attribute [local irreducible] Go.wpQuiet

/-- Of the first i rows: how many have hits, and how many hits; all lines by TellAll. -/
def recN (l : List Rw) : Nat → Nat
  | 0 => 0
  | i + 1 => recN l i + if hitAt l i then 1 else 0
def gAt (l : List Rw) (i : Nat) : List Ht := match l[i]? with
  | some x => x.g
  | none => []
def hitN (l : List Rw) : Nat → Nat
  | 0 => 0
  | i + 1 => hitN l i + (gAt l i).length
def allN (l : List Rw) : Nat → List (List UInt8)
  | 0 => []
  | i + 1 => allN l i ++ (gAt l i).map (hline (rAt l i))
theorem gAt_get (l : List Rw) (i : Nat) (h : i < l.length) : gAt l i = l[i].g := by unfold gAt; rw [List.getElem?_eq_getElem h]
theorem stat_snoc (l : List Rw) (i : Nat) (h : i < l.length) : recN l (i + 1) = recN l i + (if 0 < l[i].g.length then 1 else 0) ∧ hitN l (i + 1) = hitN l i + l[i].g.length ∧ allN l (i + 1) = allN l i ++ l[i].g.map (hline l[i].r) := by
  refine ⟨?_, ?_, ?_⟩
  · show recN l i + (if hitAt l i then 1 else 0) = _
    rw [hitAt_get l i h]; simp
  · show hitN l i + (gAt l i).length = _
    rw [gAt_get l i h]
  · show allN l i ++ (gAt l i).map (hline (rAt l i)) = _
    rw [gAt_get l i h, rAt_get l i h]
theorem recN_le (l : List Rw) : ∀ i, recN l i ≤ i
  | 0 => Nat.le_refl _
  | i + 1 => by have := recN_le l i; show recN l i + (if hitAt l i then 1 else 0) ≤ _; split <;> omega
theorem hitN_le (l : List Rw) (hf : Fit l) : ∀ i, hitN l i ≤ 1000 * i
  | 0 => Nat.le_refl _
  | i + 1 => by
    have := hitN_le l hf i
    show hitN l i + (gAt l i).length ≤ _
    have : (gAt l i).length ≤ 1000 := by
      rcases Nat.lt_or_ge i l.length with h | h
      · rw [gAt_get l i h]; have := filter_le l[i]; have := (hf i h).1; omega
      · unfold gAt; rw [List.getElem?_eq_none h]; simp
    omega
/-- By TellFirst: the first that has hits. -/
def firstN (l : List Rw) : Nat → List (List UInt8)
  | 0 => []
  | i + 1 => if firstN l i = [] then (if hitAt l i then [line (rAt l i) 58] else []) else firstN l i
def firstB (l : List Rw) : Nat → Bool
  | 0 => false
  | i + 1 => firstB l i || hitAt l i
theorem first_stay (l : List Rw) (i : Nat) (L : List UInt8) (h : firstN l i = [L]) (hb : firstB l i = true) : ∀ j, i ≤ j → firstN l j = [L] ∧ firstB l j = true
  | 0, hj => by obtain rfl : i = 0 := by omega
                exact ⟨h, hb⟩
  | j + 1, hj => by
    rcases Nat.lt_or_ge j i with h1 | h1
    · obtain rfl : i = j + 1 := by omega
      exact ⟨h, hb⟩
    · obtain ⟨e1, e2⟩ := first_stay l i L h hb j h1
      refine ⟨?_, ?_⟩
      · show (if firstN l j = [] then _ else _) = _
        rw [e1, if_neg (by simp)]
      · show (firstB l j || hitAt l j) = true
        rw [e2]; rfl
def cl2 (r h : Nat) : List UInt8 := Lib.itoa (r : Int) ++ [32] ++ Lib.itoa (h : Int)
set_option maxRecDepth 20000 in
set_option maxHeartbeats 1000000 in
theorem lines_ref3 (l : List Rw) (A : Option Addr) (n c B be af : Nat) (en : Bool) (w : World) (hr : Rws w B A n l) (hB : B ≤ w.heap.size) (hf : Fit l) (hbe : be ≤ 100) (haf : af ≤ 100) (hn : n ≤ 100) :
    Calls Tryd.prog 15 #[.int .i64 3, .int .i64 be, .int .i64 af, .slice A n c, .bool en] w fun e w' => ∃ v, e = .returned (.tuple #[v, .bool (false)]) ∧ Own w' 9 1 v ((emitI l (toldB l be af) n).1).length (lns ((emitI l (toldB l be af) n).1)) ∧ (∀ k, v.ownBlock = some k → w.heap.size ≤ k) ∧ Below w.heap.size w w' := by
  obtain ⟨i0, hi0, hz0, hz1, hz2⟩ := info_parts infoS
  have HR := Lib.hid hr
  have HF := Lib.hid hf
  have hl := hr.1
  have HL := Lib.hid hl
  have HC := Lib.hid (fun W (hb : Below w.heap.size w W) => context_ref l A n c B be af W (hr.below hb hB) (Nat.le_trans hB hb.size) hf hbe haf hn)
  generalize (emitI l (toldB l be af) n).1 = L at *
  clear hr hf hl
  go_enter Tryd.func15, Tryd.ntmps15
  go_wp2_with fail
  go_loopw [12, 13, 14, 15, 16, 17, 18] (fun _ _ _ iv _ _ _ wr => iv = .int .i64 0 ∧ Hid (Below w.heap.size w wr)) (fun _ _ _ _ _ _ _ _ => 0)
  case atStart => exact ⟨rfl, Below.refl _ _⟩
  case round =>
    obtain ⟨rfl, hbw⟩ := hrel
    by_cases h0 : (0 : Int) < (n : Int)
    · go_wp2_with (go_at_call 24; go_loud (refine (HC.out _ hbw.out).mono ?_; rintro e3 w3 ⟨v3, rfl, hown3, hk3, hb3⟩; have HOWN3 := Lib.hid hown3; have HK3 := Lib.hid hk3; have HB3 := Lib.hid (hbw.out.trans (hb3.mono hbw.out.size)); clear hown3 hk3 hb3))
      go_ret2
      exact ⟨_, rfl, HOWN3.out, fun k hk => Nat.le_trans hbw.out.size (HK3.out k hk), HB3.out⟩
    · go_wp2_with (go_at_call 24; go_loud (refine (HC.out _ hbw.out).mono ?_; rintro e3 w3 ⟨v3, rfl, hown3, hk3, hb3⟩; have HOWN3 := Lib.hid hown3; have HK3 := Lib.hid hk3; have HB3 := Lib.hid (hbw.out.trans (hb3.mono hbw.out.size)); clear hown3 hk3 hb3))
      go_ret2
      exact ⟨_, rfl, HOWN3.out, fun k hk => Nat.le_trans hbw.out.size (HK3.out k hk), HB3.out⟩
set_option maxRecDepth 20000 in
set_option maxHeartbeats 1000000 in
theorem lines_ref1 (l : List Rw) (A : Option Addr) (n c B be af : Nat) (en : Bool) (w : World) (hr : Rws w B A n l) (hB : B ≤ w.heap.size) (hf : Fit l) (hbe : be ≤ 100) (haf : af ≤ 100) (hn : n ≤ 100) :
    Calls Tryd.prog 15 #[.int .i64 1, .int .i64 be, .int .i64 af, .slice A n c, .bool en] w fun e w' => ∃ v, e = .returned (.tuple #[v, .bool (firstB l n)]) ∧ Own w' 9 1 v (firstN l n).length (lns (firstN l n)) ∧ (∀ k, v.ownBlock = some k → w.heap.size ≤ k) ∧ Below w.heap.size w w' := by
  obtain ⟨i0, hi0, hz0, hz1, hz2⟩ := info_parts infoS
  have HR := Lib.hid hr
  have HF := Lib.hid hf
  have hl := hr.1
  have HL := Lib.hid hl
  clear hr hf hl
  go_enter Tryd.func15, Tryd.ntmps15
  go_wp2_with fail
  go_loopw [12, 13, 14, 15, 16, 17, 18] (fun ov rv av iv _ _ _ wr => ∃ i : Nat, iv = .int .i64 i ∧ i ≤ n ∧ ov = .slice none 0 0 ∧ rv = .int .i64 0 ∧ av = .int .i64 0 ∧ Hid (firstN l i = [] ∧ firstB l i = false) ∧ Hid (Below w.heap.size w wr)) (fun _ _ _ iv _ _ _ _ => n - (intOf iv).toNat)
  case atStart => exact ⟨0, rfl, by omega, rfl, rfl, rfl, ⟨rfl, rfl⟩, Below.refl _ _⟩
  case round =>
    obtain ⟨i, rfl, hi, rfl, rfl, rfl, hno, hbw⟩ := hrel
    by_cases hlt : i < n
    · have hil : i < l.length := by rw [HL.out]; exact hlt
      obtain ⟨pb, po, Ah, ch, rfl, hx⟩ := (HR.out.below hbw.out hB).2 i hil
      have hfx := HF.out i hil
      have hha := hitAt_get l i hil
      have hsn := stat_snoc l i hil
      obtain ⟨x, hxe⟩ : ∃ x, l[i] = x := ⟨_, rfl⟩
      rw [hxe] at hx hfx hha hsn
      have HXE := Lib.hid hxe
      clear hxe
      have x0 := hx.c0
      have x1 := hx.c1
      have x2 := hx.c2
      have x3 := hx.c3
      have HBX : Hid (pb < w.heap.size) := by have := hx.lt; show pb < w.heap.size; omega
      have hpl : pb < wr.heap.size := by have := hbw.out.size; have := HBX.out; omega
      have i1 : (i : Int) < (n : Int) := by omega
      have i2 : (0 : Int) ≤ (i : Int) := by omega
      have HXI : Hid (I64 x.r.n) := hx.i64
      have HH := Lib.hid (hits_any x Ah ch B wr hx.rd (Nat.le_trans hB hbw.out.size) hfx.1 hfx.2)
      unfold rwv at HH
      have HX5 : Hid (∀ W, Below w.heap.size w W → W.cell? ⟨pb, po + i * 4, none⟩ = some (.int .i64 x.r.n) ∧ W.cell? ⟨pb, po + i * 4 + 2, none⟩ = some (.string (mk x.r.t))) := fun W hb => by
        obtain ⟨pb2, po2, Ah2, ch2, e, h⟩ := (HR.out.below hb hB).2 i hil
        injection e with e
        injection e with e1 e2
        subst e1; subst e2
        rw [HXE.out] at h
        exact ⟨h.c0, h.c2⟩
      have htx60 : (mk x.r.t).size ≤ 60 := hfx.2
      obtain ⟨m, hm⟩ : ∃ m, x.hs.length = m := ⟨_, rfl⟩
      rw [hm] at x3 HH
      obtain ⟨k, hk⟩ : ∃ k, x.g.length = k := ⟨_, rfl⟩
      have hk1000 : k ≤ 1000 := by have := filter_le x; have := hfx.1; omega
      rw [hk] at HH hha hsn
      have HHA := Lib.hid hha
      have HSN := Lib.hid hsn
      have HKG := Lib.hid hk
      have HRA : Hid (rAt l i = x.r) := by show _ = _; rw [rAt_get l i hil]; exact congrArg Rw.r HXE.out
      have HGA : Hid (gAt l i = x.g) := by show _ = _; rw [gAt_get l i hil]; exact congrArg Rw.g HXE.out
      have hns : (mk (Lib.itoa x.r.n)).size ≤ 20 := itoa_len _ HXI.out
      have HD := Lib.hid (fun W => digits_any x.r.n HXI.out W)
      have hlv : (mk (Lib.itoa x.r.n) ++ ⟨#[58]⟩) ++ mk x.r.t = mk (line x.r 58) := by rw [show (⟨#[58]⟩ : ByteArray) = mk [58] from rfl, mk_append, mk_append]; rfl
      have HLV := Lib.hid hlv
      have HNS : Hid (∃ X, mk (Lib.itoa x.r.n) = X) := ⟨_, rfl⟩
      clear HXE hx hfx hha hm hk hil hsn hlv
      obtain ⟨TX, hTX⟩ : ∃ TX, mk x.r.t = TX := ⟨_, rfl⟩
      rw [hTX] at x2 HH HX5 htx60 HLV
      have HTX := Lib.hid hTX
      clear hTX
      obtain ⟨NS, hNS⟩ := HNS.out
      rw [hNS] at hns HD HLV
      have HNSE := Lib.hid hNS
      clear hNS HNS
      rcases Nat.eq_zero_or_pos k with hk0 | hk0
      · subst hk0
        have HN2 : Hid (firstN l (i + 1) = [] ∧ firstB l (i + 1) = false) := by
          refine ⟨?_, ?_⟩
          · show (if firstN l i = [] then (if hitAt l i then _ else _) else _) = _
            rw [if_pos hno.out.1, HHA.out]; rfl
          · show (firstB l i || hitAt l i) = _
            rw [hno.out.2, HHA.out]; rfl
        go_wp2_with (go_at_call 23; go_loud (refine HH.out.mono ?_; rintro e3 w3 ⟨v3, rfl, hown3, hk3, hb3⟩; obtain ⟨A3, c3, rfl, -, -⟩ := hown3.len_; have HOWN3 := Lib.hid hown3; have HB3 := Lib.hid (hbw.out.trans (hb3.mono hbw.out.size)); obtain ⟨y0, y2⟩ := HX5.out w3 HB3.out; clear hown3 hk3 hb3))
        go_roundw
        case rel => exact ⟨i + 1, by go_num, by omega, rfl, rfl, rfl, HN2.out, HB3.out⟩
        case measure => simp [intOf]; omega
      · have i3 : ((k : Int) == 0) = false := by rw [beq_eq_false_iff_ne]; omega
        go_wp2_with (go_at_call 23; go_loud (refine HH.out.mono ?_; rintro e3 w3 ⟨v3, rfl, hown3, hk3, hb3⟩; obtain ⟨A3, c3, rfl, -, -⟩ := hown3.len_; have HOWN3 := Lib.hid hown3; have HB3 := Lib.hid (hbw.out.trans (hb3.mono hbw.out.size)); obtain ⟨y0, y2⟩ := HX5.out w3 HB3.out; clear hown3 hk3 hb3))
        refine (HD.out w3).mono ?_
        rintro e4 w4 ⟨rfl, hb4⟩
        have HB4 := Lib.hid (HB3.out.trans (hb4.mono HB3.out.size))
        obtain ⟨z0, z2⟩ := HX5.out w4 HB4.out
        clear hb4 y0 y2
        go_wp2_with fail
        have hst : firstN l (i + 1) = [line x.r 58] ∧ firstB l (i + 1) = true := by
          have hh : hitAt l i = true := by rw [HHA.out]; exact decide_eq_true hk0
          refine ⟨?_, ?_⟩
          · show (if firstN l i = [] then (if hitAt l i then _ else _) else _) = _
            rw [if_pos hno.out.1, hh, HRA.out]; rfl
          · show (firstB l i || hitAt l i) = _
            rw [hh]; simp
        obtain ⟨e1, e2⟩ := first_stay l (i + 1) _ hst.1 hst.2 n (by omega)
        rw [HLV.out]
        go_ret2
        rw [e1, e2]
        exact ⟨_, rfl, Own.lit w4 9 1 1 #[.string (mk (line x.r 58))] rfl (by decide), fun k hk => by
          have hk : some w4.heap.size = some k := hk
          injection hk with hk
          have := HB4.out.size
          omega, below_al HB4.out _⟩
    · obtain rfl : i = n := by omega
      go_wp2_with fail
      go_ret2
      rw [hno.out.1, hno.out.2]
      exact ⟨_, rfl, Own.nil_ _ _ _, fun k hk => by simp [Value.ownBlock] at hk, hbw.out⟩
set_option maxRecDepth 20000 in
set_option maxHeartbeats 1000000 in
theorem lines_ref2 (l : List Rw) (A : Option Addr) (n c B be af : Nat) (en : Bool) (w : World) (hr : Rws w B A n l) (hB : B ≤ w.heap.size) (hf : Fit l) (hbe : be ≤ 100) (haf : af ≤ 100) (hn : n ≤ 100) :
    Calls Tryd.prog 15 #[.int .i64 2, .int .i64 be, .int .i64 af, .slice A n c, .bool en] w fun e w' => ∃ v, e = .returned (.tuple #[v, .bool (false)]) ∧ Own w' 9 1 v ((if en then [cl2 (recN l n) (hitN l n)] else [])).length (lns ((if en then [cl2 (recN l n) (hitN l n)] else []))) ∧ (∀ k, v.ownBlock = some k → w.heap.size ≤ k) ∧ Below w.heap.size w w' := by
  obtain ⟨i0, hi0, hz0, hz1, hz2⟩ := info_parts infoS
  have HR := Lib.hid hr
  have HF := Lib.hid hf
  have hl := hr.1
  have HL := Lib.hid hl
  have HHN := Lib.hid (hitN_le l hf)
  clear hr hf hl
  go_enter Tryd.func15, Tryd.ntmps15
  go_wp2_with fail
  go_loopw [12, 13, 14, 15, 16, 17, 18] (fun ov rv av iv _ _ _ wr => ∃ i : Nat, iv = .int .i64 i ∧ i ≤ n ∧ ov = .slice none 0 0 ∧ rv = .int .i64 (recN l i) ∧ av = .int .i64 (hitN l i) ∧ Hid (Below w.heap.size w wr)) (fun _ _ _ iv _ _ _ _ => n - (intOf iv).toNat)
  case atStart => exact ⟨0, rfl, by omega, rfl, rfl, rfl, Below.refl _ _⟩
  case round =>
    obtain ⟨i, rfl, hi, rfl, rfl, rfl, hbw⟩ := hrel
    have hrl := recN_le l i
    have hhl := HHN.out i
    obtain ⟨RN, hRN⟩ : ∃ X, recN l i = X := ⟨_, rfl⟩
    obtain ⟨HN, hHN⟩ : ∃ X, hitN l i = X := ⟨_, rfl⟩
    rw [hRN, hHN]
    rw [hRN] at hrl
    rw [hHN] at hhl
    have HRN := Lib.hid hRN
    have HHN2 := Lib.hid hHN
    clear hRN hHN
    by_cases hlt : i < n
    · have hil : i < l.length := by rw [HL.out]; exact hlt
      obtain ⟨pb, po, Ah, ch, rfl, hx⟩ := (HR.out.below hbw.out hB).2 i hil
      have hfx := HF.out i hil
      have hha := hitAt_get l i hil
      have hsn := stat_snoc l i hil
      obtain ⟨x, hxe⟩ : ∃ x, l[i] = x := ⟨_, rfl⟩
      rw [hxe] at hx hfx hha hsn
      have HXE := Lib.hid hxe
      clear hxe
      have x0 := hx.c0
      have x1 := hx.c1
      have x2 := hx.c2
      have x3 := hx.c3
      have HBX : Hid (pb < w.heap.size) := by have := hx.lt; show pb < w.heap.size; omega
      have hpl : pb < wr.heap.size := by have := hbw.out.size; have := HBX.out; omega
      have i1 : (i : Int) < (n : Int) := by omega
      have i2 : (0 : Int) ≤ (i : Int) := by omega
      have HXI : Hid (I64 x.r.n) := hx.i64
      have HH := Lib.hid (hits_any x Ah ch B wr hx.rd (Nat.le_trans hB hbw.out.size) hfx.1 hfx.2)
      unfold rwv at HH
      have HX5 : Hid (∀ W, Below w.heap.size w W → W.cell? ⟨pb, po + i * 4, none⟩ = some (.int .i64 x.r.n) ∧ W.cell? ⟨pb, po + i * 4 + 2, none⟩ = some (.string (mk x.r.t))) := fun W hb => by
        obtain ⟨pb2, po2, Ah2, ch2, e, h⟩ := (HR.out.below hb hB).2 i hil
        injection e with e
        injection e with e1 e2
        subst e1; subst e2
        rw [HXE.out] at h
        exact ⟨h.c0, h.c2⟩
      have htx60 : (mk x.r.t).size ≤ 60 := hfx.2
      obtain ⟨m, hm⟩ : ∃ m, x.hs.length = m := ⟨_, rfl⟩
      rw [hm] at x3 HH
      obtain ⟨k, hk⟩ : ∃ k, x.g.length = k := ⟨_, rfl⟩
      have hk1000 : k ≤ 1000 := by have := filter_le x; have := hfx.1; omega
      rw [hk] at HH hha hsn
      have HHA := Lib.hid hha
      have HSN := Lib.hid hsn
      have HKG := Lib.hid hk
      have HRA : Hid (rAt l i = x.r) := by show _ = _; rw [rAt_get l i hil]; exact congrArg Rw.r HXE.out
      have HGA : Hid (gAt l i = x.g) := by show _ = _; rw [gAt_get l i hil]; exact congrArg Rw.g HXE.out
      have hns : (mk (Lib.itoa x.r.n)).size ≤ 20 := itoa_len _ HXI.out
      have HD := Lib.hid (fun W => digits_any x.r.n HXI.out W)
      have hlv : (mk (Lib.itoa x.r.n) ++ ⟨#[58]⟩) ++ mk x.r.t = mk (line x.r 58) := by rw [show (⟨#[58]⟩ : ByteArray) = mk [58] from rfl, mk_append, mk_append]; rfl
      have HLV := Lib.hid hlv
      have HNS : Hid (∃ X, mk (Lib.itoa x.r.n) = X) := ⟨_, rfl⟩
      clear HXE hx hfx hha hm hk hil hsn hlv
      obtain ⟨TX, hTX⟩ : ∃ TX, mk x.r.t = TX := ⟨_, rfl⟩
      rw [hTX] at x2 HH HX5 htx60 HLV
      have HTX := Lib.hid hTX
      clear hTX
      obtain ⟨NS, hNS⟩ := HNS.out
      rw [hNS] at hns HD HLV
      have HNSE := Lib.hid hNS
      clear hNS HNS
      rcases Nat.eq_zero_or_pos k with hk0 | hk0
      · subst hk0
        have HS : Hid (recN l (i + 1) = RN ∧ hitN l (i + 1) = HN) := by
          refine ⟨?_, ?_⟩
          · rw [HSN.out.1, HRN.out]; rfl
          · rw [HSN.out.2.1, HHN2.out]; rfl
        go_wp2_with (go_at_call 23; go_loud (refine HH.out.mono ?_; rintro e3 w3 ⟨v3, rfl, hown3, hk3, hb3⟩; obtain ⟨A3, c3, rfl, -, -⟩ := hown3.len_; have HOWN3 := Lib.hid hown3; have HB3 := Lib.hid (hbw.out.trans (hb3.mono hbw.out.size)); obtain ⟨y0, y2⟩ := HX5.out w3 HB3.out; clear hown3 hk3 hb3))
        go_roundw
        case rel => exact ⟨i + 1, by go_num, by omega, rfl, by rw [HS.out.1], by rw [HS.out.2], HB3.out⟩
        case measure => simp [intOf]; omega
      · have i3 : ((k : Int) == 0) = false := by rw [beq_eq_false_iff_ne]; omega
        have HS : Hid (recN l (i + 1) = RN + 1 ∧ hitN l (i + 1) = HN + k) := by
          refine ⟨?_, ?_⟩
          · rw [HSN.out.1, HRN.out, if_pos hk0]
          · rw [HSN.out.2.1, HHN2.out]
        go_wp2_with (go_at_call 23; go_loud (refine HH.out.mono ?_; rintro e3 w3 ⟨v3, rfl, hown3, hk3, hb3⟩; obtain ⟨A3, c3, rfl, -, -⟩ := hown3.len_; have HOWN3 := Lib.hid hown3; have HB3 := Lib.hid (hbw.out.trans (hb3.mono hbw.out.size)); obtain ⟨y0, y2⟩ := HX5.out w3 HB3.out; clear hown3 hk3 hb3))
        refine (HD.out w3).mono ?_
        rintro e4 w4 ⟨rfl, hb4⟩
        have HB4 := Lib.hid (HB3.out.trans (hb4.mono HB3.out.size))
        obtain ⟨z0, z2⟩ := HX5.out w4 HB4.out
        clear hb4 y0 y2
        have i4 : (0 : Int) < (k : Int) := by omega
        go_wp2_with fail
        go_loopw [12, 18] (fun ov kv wr2 => ov = .slice none 0 0 ∧ kv = .int .i64 0 ∧ wr2 = w4) (fun _ _ _ => 0)
        case atStart => exact ⟨rfl, rfl, rfl⟩
        case round =>
          obtain ⟨rfl, rfl, rfl⟩ := hrel
          go_wp2_with fail
          go_roundw
          case rel => exact ⟨i + 1, by go_num, by omega, rfl, by rw [HS.out.1]; go_num, by rw [HS.out.2]; go_num, HB4.out⟩
          case measure => simp [intOf]; omega
    · obtain rfl : i = n := by omega
      cases en with
      | false =>
        go_wp2_with fail
        go_ret2
        exact ⟨_, rfl, Own.nil_ _ _ _, fun k hk => by simp [Value.ownBlock] at hk, hbw.out⟩
      | true =>
        have hI1 : I64 (RN : Int) := by unfold I64; omega
        have hI2 : I64 (HN : Int) := by unfold I64; omega
        have HD1 := Lib.hid (fun W => digits_any (RN : Int) hI1 W)
        have HD2 := Lib.hid (fun W => digits_any (HN : Int) hI2 W)
        have hs1 : (mk (Lib.itoa (RN : Int))).size ≤ 20 := itoa_len _ hI1
        have hs2 : (mk (Lib.itoa (HN : Int))).size ≤ 20 := itoa_len _ hI2
        have hlv : (mk (Lib.itoa (RN : Int)) ++ ⟨#[32]⟩) ++ mk (Lib.itoa (HN : Int)) = mk (cl2 RN HN) := by rw [show (⟨#[32]⟩ : ByteArray) = mk [32] from rfl, mk_append, mk_append]; rfl
        have HLV := Lib.hid hlv
        clear hI1 hI2 hlv
        generalize mk (Lib.itoa (RN : Int)) = SR at *
        generalize mk (Lib.itoa (HN : Int)) = SH at *
        go_wp2_with fail
        refine (HD1.out wr).mono ?_
        rintro e5 w5 ⟨rfl, hb5⟩
        have HB5 := Lib.hid (hbw.out.trans (hb5.mono hbw.out.size))
        clear hb5
        go_wp2_with fail
        refine (HD2.out w5).mono ?_
        rintro e6 w6 ⟨rfl, hb6⟩
        have HB6 := Lib.hid (HB5.out.trans (hb6.mono HB5.out.size))
        clear hb6
        have hl1 : (SR ++ (⟨#[32]⟩ : ByteArray) ++ SH).size ≤ 41 := by
          simp only [ByteArray.size_append]
          have : (⟨#[32]⟩ : ByteArray).size = 1 := rfl
          omega
        go_wp2_with fail
        rw [HLV.out]
        go_ret2
        rw [HRN.out, HHN2.out]
        exact ⟨_, rfl, Own.lit w6 9 1 1 #[.string (mk (cl2 RN HN))] rfl (by decide), fun k hk => by
          have hk : some w6.heap.size = some k := hk
          injection hk with hk
          have := HB6.out.size
          omega, below_al HB6.out _⟩
end Go.Proofs.YtbgmdjceecbbhaaDoor
