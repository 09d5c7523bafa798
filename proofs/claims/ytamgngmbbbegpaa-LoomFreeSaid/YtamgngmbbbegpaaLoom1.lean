/-
  The document's state of the loom, how it lies in memory, and the contracts of its Over and Ready; no condition beyond those that each theorem states.
-/
import Derived.Test.YtamgngmbbbegpaaInts
import Derived.Test.YtamgngmbbbegpaaRegion
namespace Go.Proofs.Ytamgngmbbbegpaa
open Go.RowKit Go.Rb
attribute [local irreducible] Go.wpQuiet

def pp (p : Nat) : Value := .pointer (some ⟨p, 0, none⟩)
/-- The cells of the first n jobs. -/
def flat3 (f : Nat → Value × Value × Value) : Nat → List Value
  | 0 => []
  | n + 1 => flat3 f n ++ [(f n).1, (f n).2.1, (f n).2.2]
theorem flat3_len (f : Nat → Value × Value × Value) : ∀ n, (flat3 f n).length = n * 3
  | 0 => rfl
  | n + 1 => by simp [flat3, flat3_len f n]; omega
theorem flat3_get (f : Nat → Value × Value × Value) : ∀ n i, i < n → (flat3 f n)[i * 3]? = some (f i).1 ∧ (flat3 f n)[i * 3 + 1]? = some (f i).2.1 ∧ (flat3 f n)[i * 3 + 2]? = some (f i).2.2
  | 0, i, h => absurd h (by omega)
  | n + 1, i, h => by
    have hl := flat3_len f n
    by_cases hi : i < n
    · obtain ⟨h1, h2, h3⟩ := flat3_get f n i hi
      rw [flat3, List.getElem?_append_left (by omega), List.getElem?_append_left (by omega), List.getElem?_append_left (by omega)]
      exact ⟨h1, h2, h3⟩
    · obtain rfl : i = n := by omega
      rw [flat3, List.getElem?_append_right (by omega), List.getElem?_append_right (by omega), List.getElem?_append_right (by omega), hl]
      simp only [Nat.sub_self, Nat.add_sub_cancel_left]
      exact ⟨rfl, rfl, rfl⟩

/-- One task: how many steps, on whom it waits, by how many. -/
structure Jb where
  st : Int
  on : Int
  af : Int
  deriving Inhabited
def jrow (js : List Jb) (i : Nat) : Value × Value × Value := (.int .i64 (js.getD i default).st, .int .i64 (js.getD i default).on, .int .i64 (js.getD i default).af)
def overP (js : List Jb) (tk : List Int) (i : Nat) : Prop := (js.getD i default).st ≤ tk.getD i 0
instance (js : List Jb) (tk : List Int) (i : Nat) : Decidable (overP js tk i) := by unfold overP; exact inferInstance
/-- Does it wait for nobody? -/
def freeP (js : List Jb) (tk : List Int) (i : Nat) : Prop :=
  (js.getD i default).on < 0 ∨ (js.length : Int) ≤ (js.getD i default).on ∨ (js.getD i default).on = (i : Int) ∨ overP js tk (js.getD i default).on.toNat
instance (js : List Jb) (tk : List Int) (i : Nat) : Decidable (freeP js tk i) := by unfold freeP; exact inferInstance
def readyP (js : List Jb) (tk : List Int) (i : Nat) : Prop :=
  ¬ overP js tk i ∧ (freeP js tk i ∨ tk.getD i 0 + (js.getD i default).af ≤ tk.getD (js.getD i default).on.toNat 0)
instance (js : List Jb) (tk : List Int) (i : Nat) : Decidable (readyP js tk i) := by unfold readyP; exact inferInstance

/-- The document's state at sp: the tasks that were handed in, below block B; the steps that were taken, in a block of its own. -/
structure StA (w : World) (B : Nat) (S : Nat → Prop) (sp : Nat) (J : Option Addr) (n cj : Nat) (tv : Value) (js : List Jb) (tk : List Int) : Prop where
  sb : Blk w sp 35 #[.slice J n cj, tv]
  jo : Rd w B 3 J n (flat3 (jrow js) n)
  jl : js.length = n
  jc : n ≤ cj
  ok : Own w 3 1 tv n (tk.map iV)
  tl : tk.length = n
  st : S sp
  sv : ∀ k, tv.ownBlock = some k → S k
  lt : ∀ k, S k → k < w.heap.size
  sB : ∀ k, S k → B ≤ k
  hB : B ≤ w.heap.size
section
variable {w w' : World} {B : Nat} {S T : Nat → Prop} {sp : Nat} {J : Option Addr} {n cj : Nat} {tv : Value} {js : List Jb} {tk : List Int}
theorem StA.c0 (h : StA w B S sp J n cj tv js tk) : w.cell? ⟨sp, 0, none⟩ = some (.slice J n cj) := by rw [h.sb.cell]; rfl
theorem StA.c1 (h : StA w B S sp J n cj tv js tk) : w.cell? ⟨sp, 1, none⟩ = some tv := by rw [h.sb.cell]; rfl
theorem StA.jat (h : StA w B S sp J n cj tv js tk) {i : Nat} (hi : i < n) : ∃ b off, J = some ⟨b, off, none⟩ ∧ w.cell? ⟨b, off + i * 3, none⟩ = some (.int .i64 (js.getD i default).st) ∧
    w.cell? ⟨b, off + i * 3 + 1, none⟩ = some (.int .i64 (js.getD i default).on) ∧ w.cell? ⟨b, off + i * 3 + 2, none⟩ = some (.int .i64 (js.getD i default).af) := by
  obtain ⟨b, off, hJ, -, hc⟩ := h.jo.2 (by omega)
  obtain ⟨h1, h2, h3⟩ := flat3_get (jrow js) n i hi
  refine ⟨b, off, hJ, ?_, ?_, ?_⟩
  · rw [hc (i * 3) (by omega), h1]; rfl
  · rw [Nat.add_assoc, hc (i * 3 + 1) (by omega), h2]; rfl
  · rw [Nat.add_assoc, hc (i * 3 + 2) (by omega), h3]; rfl
theorem StA.tat (h : StA w B S sp J n cj tv js tk) {i : Nat} (hi : i < n) : ∃ g off cap, tv = .slice (some ⟨g, off, none⟩) n cap ∧ w.cell? ⟨g, off + i, none⟩ = some (.int .i64 (tk.getD i 0)) ∧ (∀ j, w.frozen? ⟨g, j, none⟩ = false) ∧ S g ∧ g ≠ sp := by
  obtain ⟨g, off, cap, hv, _, _, _, hc, hf⟩ := h.ok.form (by omega)
  refine ⟨g, off, cap, hv, ?_, hf, h.sv g (by rw [hv]; rfl), ?_⟩
  · rw [hc i (by omega), List.getElem?_map, List.getD_eq_getElem?_getD, List.getElem?_eq_getElem (by rw [h.tl]; exact hi)]; rfl
  · intro e
    rcases h.ok.2 with ⟨rfl, _⟩ | ⟨g', off', cap', cur, e', hg, _⟩
    · cases hv
    · rw [hv] at e'
      simp only [Value.slice.injEq, Option.some.injEq, Addr.mk.injEq] at e'
      obtain ⟨⟨rfl, _, _⟩, _⟩ := e'
      exact Blk.ne_ (t := 3) (show Blk w g 3 cur from hg) h.sb (by decide) e
theorem StA.frame (h : StA w B S sp J n cj tv js tk) (hb : Only T w w') (hd : ∀ k, S k → ¬ T k) (hT : ∀ k, k < B → ¬ T k) : StA w' B S sp J n cj tv js tk :=
  ⟨h.sb.only hb (hd _ h.st), h.jo.only hb h.hB hT, h.jl, h.jc, h.ok.only hb fun k hk => hd _ (h.sv k hk), h.tl, h.st, h.sv, fun k hk => Nat.lt_of_lt_of_le (h.lt k hk) hb.size, h.sB, Nat.le_trans h.hB hb.size⟩
theorem StA.below (h : StA w B S sp J n cj tv js tk) (hb : Below w.heap.size w w') : StA w' B S sp J n cj tv js tk :=
  h.frame (Only.of_below hb) (fun k hk hh => by have := h.lt k hk; omega) (fun k hk hh => by have := h.hB; omega)
theorem StA.drewN (h : StA w B S sp J n cj tv js tk) (q : Nat) : StA (w.drewN q) B S sp J n cj tv js tk := h.below (below_drewN (Below.refl _ _) q)

set_option maxHeartbeats 1000000 in
theorem over_any (h : StA w B S sp J n cj tv js tk) (i : Nat) (hi : i < n) :
    Calls Try.prog 20 #[pp sp, .int .i64 (i : Int)] w fun e w' => e = .returned (.bool (decide (overP js tk i))) ∧ ∃ q, w' = w.drewN q := by
  have c0 := h.c0
  have c1 := h.c1
  obtain ⟨b, off, rfl, k0, -, -⟩ := h.jat hi
  obtain ⟨g, o2, cap, rfl, t0, -, -, -⟩ := h.tat hi
  have hcj := h.jc
  have e : decide (overP js tk i) = decide ((js.getD i default).st ≤ tk.getD i 0) := by unfold overP; rfl
  rw [e]
  clear e
  generalize (js.getD i default).st = st at *
  generalize tk.getD i 0 = x at *
  have hin : (i : Int) < (n : Int) := by omega
  unfold pp
  clear h
  go_enter Try.func20, Try.ntmps20
  go_wp2_with fail
  go_quiet (fail)
  go_wp2_with fail
  go_ret
  exact ⟨by simp, _, rfl⟩

/-- The bounds of the tasks, and of what was taken. -/
def Sm (js : List Jb) (tk : List Int) : Prop := ∀ i, i < js.length → -100 ≤ (js.getD i default).af ∧ (js.getD i default).af ≤ 100 ∧ 0 ≤ tk.getD i 0 ∧ tk.getD i 0 ≤ 1000000
theorem quiet_more {P : Program} {f : FuncId} {args : Array Value} {w : World} {n : Nat} {v : Value}
    (h : Calls P f args (w.drewN n) fun e w' => e = .returned v ∧ ∃ q, w' = (w.drewN n).drewN q) : Calls P f args (w.drewN n) fun e w'' => e = .returned v ∧ ∃ m, w'' = w.drewN m :=
  h.mono fun _ _ ⟨he, q, hq⟩ => ⟨he, n + q, by rw [hq]; simp [World.drewN, Nat.add_assoc]⟩
theorem blk_get {w : World} {g : Nat} {t : TypeId} {cs : Array Value} (h : Blk w g t cs) (i : Nat) (v : Value) (hv : cs[i]? = some v) : w.cell? ⟨g, i, none⟩ = some v := by rw [h.cell, hv]

set_option maxRecDepth 20000 in
set_option maxHeartbeats 4000000 in
theorem ready_any (h : StA w B S sp J n cj tv js tk) (hm : Sm js tk) (i : Nat) (hi : i < n) :
    Calls Try.prog 25 #[pp sp, .int .i64 (i : Int)] w fun e w' => e = .returned (.bool (decide (readyP js tk i))) ∧ Below w.heap.size w w' := by
  have c0 := h.c0
  have c1 := h.c1
  have HH := Lib.hid h
  obtain ⟨b, off, rfl, k0, k1, k2⟩ := h.jat hi
  have hcj := h.jc
  have hjl := h.jl
  have hin : (i : Int) < (n : Int) := by omega
  have HM := Lib.hid hm
  have hmi := hm i (by omega)
  clear h hm
  have HR0 : Hid (readyP js tk i ↔ ¬ overP js tk i ∧ (freeP js tk i ∨ tk.getD i 0 + (js.getD i default).af ≤ tk.getD (js.getD i default).on.toNat 0)) := Iff.rfl
  have HF0 : Hid (freeP js tk i ↔ (js.getD i default).on < 0 ∨ (n : Int) ≤ (js.getD i default).on ∨ (js.getD i default).on = (i : Int) ∨ overP js tk (js.getD i default).on.toNat) := by
    rw [← hjl]; exact Iff.rfl
  have HOV : Hid (∀ W, Below w.heap.size w W → ∀ k, k < n → Calls Try.prog 20 #[pp sp, .int .i64 (k : Int)] W fun e w' => e = .returned (.bool (decide (overP js tk k))) ∧ ∃ q, w' = W.drewN q) := fun W hW k hk => over_any (HH.out.below hW) k hk
  generalize (js.getD i default).st = st at *
  generalize (js.getD i default).on = on at *
  generalize (js.getD i default).af = af at *
  generalize hxi : tk.getD i 0 = xi at *
  have HXI := Lib.hid hxi
  clear hjl hxi
  have HB1 : Hid (Below w.heap.size w (w.alloc (.cells #[.int .i64 st, .int .i64 on, .int .i64 af] 47))) := below_al (Below.refl _ _) _
  have HN1 := Lib.hid (Blk.new w 47 #[.int .i64 st, .int .i64 on, .int .i64 af])
  unfold pp at HOV ⊢
  by_cases ho : overP js tk i
  · have HO := Lib.hid (HOV.out _ HB1.out i hi)
    rw [decide_eq_true ho] at HO
    have hR : decide (readyP js tk i) = false := decide_eq_false (fun hh => (HR0.out.1 hh).1 ho)
    rw [hR]
    clear ho hR
    go_enter Try.func25, Try.ntmps25
    go_wp2_with (go_at_call 20; refine HO.out.mono ?_; rintro e1 w1 ⟨rfl, q, rfl⟩)
    go_ret
    exact ⟨rfl, below_drewN HB1.out q⟩
  · have HO := Lib.hid (HOV.out _ HB1.out i hi)
    rw [decide_eq_false ho] at HO
    have HNO := Lib.hid ho
    clear ho
    by_cases h1 : on < 0
    · have b18 : decide (on < 0) = true := by simpa using h1
      have hR : decide (readyP js tk i) = true := decide_eq_true (HR0.out.2 ⟨HNO.out, .inl (HF0.out.2 (.inl h1))⟩)
      rw [hR]
      clear hR
      go_enter Try.func25, Try.ntmps25
      go_wp2_with (go_at_call 20; refine HO.out.mono ?_; rintro e1 w1 ⟨rfl, q, rfl⟩)
      have HB2 := Lib.hid (below_drewN HB1.out q)
      have HN2 := Lib.hid (HN1.out.drewN q)
      generalize (w.alloc (.cells #[.int .i64 st, .int .i64 on, .int .i64 af] 47)).drewN q = W2 at *
      have n0 := blk_get HN2.out 0 _ rfl
      have n1 := blk_get HN2.out 1 _ rfl
      have n2 := blk_get HN2.out 2 _ rfl
      have HS2 := Lib.hid (HH.out.below HB2.out)
      have d0 := HS2.out.c0
      have d1 := HS2.out.c1
      clear c0 c1 k0 k1 k2
      go_quiet (fail)
      go_wp2_with fail
      go_ret
      exact ⟨rfl, below_drewN HB2.out _⟩
    · have b18 : decide (on < 0) = false := by simpa using h1
      by_cases h2 : (n : Int) ≤ on
      · have b27 : decide ((n : Int) ≤ on) = true := by simpa using h2
        have hR : decide (readyP js tk i) = true := decide_eq_true (HR0.out.2 ⟨HNO.out, .inl (HF0.out.2 (.inr (.inl h2)))⟩)
        rw [hR]
        clear hR
        go_enter Try.func25, Try.ntmps25
        go_wp2_with (go_at_call 20; refine HO.out.mono ?_; rintro e1 w1 ⟨rfl, q, rfl⟩)
        have HB2 := Lib.hid (below_drewN HB1.out q)
        have HN2 := Lib.hid (HN1.out.drewN q)
        generalize (w.alloc (.cells #[.int .i64 st, .int .i64 on, .int .i64 af] 47)).drewN q = W2 at *
        have n0 := blk_get HN2.out 0 _ rfl
        have n1 := blk_get HN2.out 1 _ rfl
        have n2 := blk_get HN2.out 2 _ rfl
        have HS2 := Lib.hid (HH.out.below HB2.out)
        have d0 := HS2.out.c0
        have d1 := HS2.out.c1
        clear c0 c1 k0 k1 k2
        go_quiet (fail)
        go_wp2_with fail
        go_ret
        exact ⟨rfl, below_drewN HB2.out _⟩
      · have b27 : decide ((n : Int) ≤ on) = false := by simpa using h2
        by_cases h3 : on = (i : Int)
        · have b33 : (on == (i : Int)) = true := by simpa using h3
          have hR : decide (readyP js tk i) = true := decide_eq_true (HR0.out.2 ⟨HNO.out, .inl (HF0.out.2 (.inr (.inr (.inl h3))))⟩)
          rw [hR]
          clear hR h3
          go_enter Try.func25, Try.ntmps25
          go_wp2_with (go_at_call 20; refine HO.out.mono ?_; rintro e1 w1 ⟨rfl, q, rfl⟩)
          have HB2 := Lib.hid (below_drewN HB1.out q)
          have HN2 := Lib.hid (HN1.out.drewN q)
          generalize (w.alloc (.cells #[.int .i64 st, .int .i64 on, .int .i64 af] 47)).drewN q = W2 at *
          have n0 := blk_get HN2.out 0 _ rfl
          have n1 := blk_get HN2.out 1 _ rfl
          have n2 := blk_get HN2.out 2 _ rfl
          have HS2 := Lib.hid (HH.out.below HB2.out)
          have d0 := HS2.out.c0
          have d1 := HS2.out.c1
          clear c0 c1 k0 k1 k2
          go_quiet (fail)
          go_wp2_with fail
          go_ret
          exact ⟨rfl, below_drewN HB2.out _⟩
        · obtain ⟨k, rfl⟩ := Int.eq_ofNat_of_zero_le (show 0 ≤ on by omega)
          have b33 : ((k : Int) == (i : Int)) = false := by simpa using h3
          have hk : k < n := by omega
          have hkn : (k : Int) < (n : Int) := by omega
          rw [Int.toNat_natCast] at HR0 HF0
          by_cases h4 : overP js tk k
          · have hR : decide (readyP js tk i) = true := decide_eq_true (HR0.out.2 ⟨HNO.out, .inl (HF0.out.2 (.inr (.inr (.inr h4))))⟩)
            have hd : decide (overP js tk k) = true := decide_eq_true h4
            rw [hR]
            clear hR h4
            go_enter Try.func25, Try.ntmps25
            go_wp2_with (go_at_call 20; refine HO.out.mono ?_; rintro e1 w1 ⟨rfl, q, rfl⟩)
            have HB2 := Lib.hid (below_drewN HB1.out q)
            have HN2 := Lib.hid (HN1.out.drewN q)
            generalize (w.alloc (.cells #[.int .i64 st, .int .i64 (k : Int), .int .i64 af] 47)).drewN q = W2 at *
            have n0 := blk_get HN2.out 0 _ rfl
            have n1 := blk_get HN2.out 1 _ rfl
            have n2 := blk_get HN2.out 2 _ rfl
            have HS2 := Lib.hid (HH.out.below HB2.out)
            have d0 := HS2.out.c0
            have d1 := HS2.out.c1
            clear c0 c1 k0 k1 k2
            have HO4 : Hid (∀ m, Calls Try.prog 20 #[.pointer (some ⟨sp, 0, none⟩), .int .i64 (k : Int)] (W2.drewN m) fun e w' => e = .returned (.bool true) ∧ ∃ q, w' = (W2.drewN m).drewN q) := fun m => by
              have := HOV.out _ (below_drewN HB2.out m) k hk
              rw [hd] at this
              exact this
            clear hd
            go_quiet ((go_at_call 20; exact quiet_more (HO4.out _)))
            go_wp2_with fail
            go_ret
            exact ⟨rfl, below_drewN HB2.out _⟩
          · have hd : decide (overP js tk k) = false := decide_eq_false h4
            have hR : decide (readyP js tk i) = decide (xi + af ≤ tk.getD k 0) := by
              rw [decide_eq_decide, HR0.out, HF0.out]
              constructor
              · rintro ⟨_, (h | h | h | h) | h⟩
                · omega
                · omega
                · exact absurd h h3
                · exact absurd h h4
                · exact h
              · intro h; exact ⟨HNO.out, .inr h⟩
            rw [hR]
            have hmk := HM.out k (by rw [HH.out.jl]; exact hk)
            clear hR h3 h4
            generalize hxk : tk.getD k 0 = xk at *
            have HXK := Lib.hid hxk
            clear hxk
            go_enter Try.func25, Try.ntmps25
            go_wp2_with (go_at_call 20; refine HO.out.mono ?_; rintro e1 w1 ⟨rfl, q, rfl⟩)
            have HB2 := Lib.hid (below_drewN HB1.out q)
            have HN2 := Lib.hid (HN1.out.drewN q)
            generalize (w.alloc (.cells #[.int .i64 st, .int .i64 (k : Int), .int .i64 af] 47)).drewN q = W2 at *
            have n0 := blk_get HN2.out 0 _ rfl
            have n1 := blk_get HN2.out 1 _ rfl
            have n2 := blk_get HN2.out 2 _ rfl
            have HS2 := Lib.hid (HH.out.below HB2.out)
            have d0 := HS2.out.c0
            have d1 := HS2.out.c1
            clear c0 c1 k0 k1 k2
            have HO4 : Hid (∀ m, Calls Try.prog 20 #[.pointer (some ⟨sp, 0, none⟩), .int .i64 (k : Int)] (W2.drewN m) fun e w' => e = .returned (.bool false) ∧ ∃ q, w' = (W2.drewN m).drewN q) := fun m => by
              have := HOV.out _ (below_drewN HB2.out m) k hk
              rw [hd] at this
              exact this
            clear hd
            obtain ⟨g, o2, cap, rfl, t0, -, -, -⟩ := HS2.out.tat hk
            obtain ⟨g', o2', cap', e', t1, -, -, -⟩ := HS2.out.tat hi
            simp only [Value.slice.injEq, Option.some.injEq, Addr.mk.injEq] at e'
            obtain ⟨⟨rfl, rfl, -⟩, -, rfl⟩ := e'
            rw [HXI.out] at t1
            rw [HXK.out] at t0
            go_quiet ((go_at_call 20; exact quiet_more (HO4.out _)))
            go_wp2_with fail
            go_quiet (fail)
            go_wp2_with fail
            go_ret
            exact ⟨by simp, below_drewN (below_drewN HB2.out _) _⟩
end
end Go.Proofs.Ytamgngmbbbegpaa
