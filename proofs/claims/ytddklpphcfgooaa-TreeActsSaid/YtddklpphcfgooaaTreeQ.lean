/-
  How the tree lies in memory before and behind a change of a cell, the adding of a node, the adding to a node's kids; no condition beyond those that each theorem states.
-/
import Derived.Test.YtddklpphcfgooaaTreeP
namespace Go.Proofs.Ytddklpphcfgooaa
open Go.RowKit Go.Rb

theorem flat3_congr {f g : Nat → Value × Value × Value} : ∀ n, (∀ i, i < n → f i = g i) → flat3 f n = flat3 g n
  | 0, _ => rfl
  | n + 1, h => by rw [flat3, flat3, flat3_congr n fun i hi => h i (by omega), h n (by omega)]
theorem flat3_set (f : Nat → Value × Value × Value) (i j : Nat) (hj : j < 3) (u : Value) : ∀ n, i < n →
    (flat3 f n).set (i * 3 + j) u = flat3 (fun k => if k = i then (if j = 0 then u else (f k).1, if j = 1 then u else (f k).2.1, if j = 2 then u else (f k).2.2) else f k) n
  | 0, h => absurd h (by omega)
  | n + 1, h => by
    have hl := flat3_len f n
    by_cases hi : i < n
    · rw [flat3, flat3, List.set_append_left _ _ (by omega), flat3_set f i j hj u n hi, if_neg (by omega)]
    · obtain rfl : i = n := by omega
      rw [flat3, flat3, List.set_append_right _ _ (by omega), hl, Nat.add_sub_cancel_left, if_pos rfl]
      rw [flat3_congr (f := fun k => if k = i then _ else f k) (g := f) i fun k hk => if_neg (by omega)]
      refine congrArg (flat3 f i ++ ·) ?_
      match j, hj with
      | 0, _ => rfl
      | 1, _ => rfl
      | 2, _ => rfl

/-- The nodes have been appended to. -/
def AddMid (w0 : World) (t : Nat) (W : World) (v av : Value) (n : Nat) (xs : List Value) (p c : Value) : Prop :=
  ∃ g off cap, v = .slice (some ⟨g, off, none⟩) (n + 1) cap ∧ Own W 52 3 v (n + 1) (xs ++ [p, c, .slice none 0 0]) ∧ Only (fun k => av.ownBlock = some k ∨ k = t ∨ w0.heap.size ≤ k) w0 W ∧ (av.ownBlock = some g ∨ w0.heap.size ≤ g)
theorem addMid_of {w0 W w4 : World} {t g off n c : Nat} {xs : List Value} {p q : Value} {av : Value} (hpre : Below w0.heap.size w0 W) (ho : Own w4 52 3 (.slice (some ⟨g, off, none⟩) (n + 1) c) (n + 1) (xs ++ [p, q, .slice none 0 0]))
    (hg : W.grownBy w4 av.ownBlock) (hat : av.ownBlock = some g ∨ g = W.heap.size) : AddMid w0 t w4 (.slice (some ⟨g, off, none⟩) (n + 1) c) av n xs p q := by
  refine ⟨g, off, c, rfl, ho, ?_, ?_⟩
  · exact ((Only.of_below hpre).mono (S' := fun k => av.ownBlock = some k ∨ k = t ∨ w0.heap.size ≤ k) (fun k _ hk => .inr (.inr hk))).grown hg (fun k hk _ => .inl hk)
  · rcases hat with h | h
    · exact .inl h
    · exact .inr (by rw [h]; exact hpre.size)
theorem AddMid.set {w0 W : World} {t n : Nat} {u av : Value} {xs : List Value} {p c : Value} {cs : Array Value} (h : AddMid w0 t W u av n xs p c) (hb : Blk W t 55 cs) (x : Value) : AddMid w0 t (W.setCell ⟨t, 0, none⟩ x) u av n xs p c := by
  obtain ⟨g, off, cap, e, ho, hO, hg⟩ := h
  exact ⟨g, off, cap, e, ho.setCell (p := ⟨t, 0, none⟩) (own_ne_blk ho hb (by decide)) _, hO.setCell (p := ⟨t, 0, none⟩) (fun _ => .inr (.inl rfl)) _, hg⟩


section
variable {w W : World} {S : Nat → Prop} {t : Nat} {av : Value} {ks : Nat → Value} {s : TS}
theorem RepA.setCause {g off cap : Nat} (h : RepA w S t (.slice (some ⟨g, off, none⟩) s.n cap) ks s) (i : Nat) (hi : i < s.n) (c : Int) :
    RepA (w.setCell ⟨g, off + i * 3 + 1, none⟩ (.int .i64 c)) S t (.slice (some ⟨g, off, none⟩) s.n cap) ks (s.wca (s.ca.set i c)) := by
  have hg : g ≠ t := fun e => own_ne_blk h.ao h.tb (by decide) (by rw [← e]; rfl)
  refine ⟨h.tb.far (p := ⟨g, off + i * 3 + 1, none⟩) (Ne.symm hg) _, ?_, ?_, h.kd, ?_, h.kl, h.st, h.sa, h.sk, fun k hk => by simpa [World.setCell] using h.lt k hk, h.nn⟩
  · have := h.ao.store (i * 3 + 1) (by omega) (.int .i64 c)
    rw [← Nat.add_assoc, flat3_set _ i 1 (by omega) _ _ hi] at this
    rw [show (s.wca (s.ca.set i c)).n = s.n from rfl]
    rw [flat3_congr (g := (s.wca (s.ca.set i c)).row ks)] at this
    · exact this
    · intro k hk
      have hil : i < s.ca.length := by rw [h.cl]; exact hi
      by_cases hki : k = i
      · subst hki
        simp only [if_pos, TS.row, TS.wca, getD_set hil]
        rfl
      · simp only [if_neg hki, TS.row, TS.wca, getD_set hil]
  · intro j hj
    exact (h.ko j hj).setCell (p := ⟨g, off + i * 3 + 1, none⟩) (fun e => own_ne' (h.ko j hj) h.ao (by decide) g e rfl) _
  · show (s.ca.set i c).length = s.n
    rw [List.length_set]; exact h.cl

/-- A node without kids more. -/
def addN (s : TS) (p : Nat) : TS := ⟨s.up ++ [(p : Int)], s.ca ++ [s.ca.getD p 0], s.ki ++ [[]]⟩
theorem addS_eq {s : TS} {p : Nat} (hp : p < s.ki.length) : { addN s p with ki := (addN s p).ki.set p ((addN s p).ki.getD p [] ++ [s.n]) } = addS s p := by
  simp only [addN, addS, getD_snoc_lt hp, List.set_append_left _ _ hp]
theorem AddMid.rep {W3 : World} {v : Value} {p : Nat} (h : RepA w S t av ks s) (hn : s.n < 256) (hm : AddMid w.drew t W3 v av s.n (flat3 (s.row ks) s.n) (.int .i64 (p : Int)) (.int .i64 (s.ca.getD p 0)))
    (hb : Blk W3 t 55 #[av]) (hW : W = W3.setCell ⟨t, 0, none⟩ v) :
    RepA W (fun q => S q ∨ w.heap.size ≤ q ∧ q < W.heap.size) t v (fun i => if i = s.n then .slice none 0 0 else ks i) (addN s p) ∧ Only S w W := by
  subst hW
  obtain ⟨g, off, cap, rfl, ho, hO, hg⟩ := hm
  have hS : ∀ q, av.ownBlock = some q ∨ q = t ∨ w.heap.size ≤ q → q < w.heap.size → S q := by
    rintro q (hq | rfl | hq) hlt
    · exact h.sa q hq
    · exact h.st
    · omega
  have hsz : w.heap.size ≤ W3.heap.size := hO.size
  have hgt : W3.heap.size = (W3.setCell ⟨t, 0, none⟩ (.slice (some ⟨g, off, none⟩) (s.n + 1) cap)).heap.size := by simp [World.setCell]
  have hn1 : (addN s p).n = s.n + 1 := by simp [addN, TS.n]
  have hcl : s.ca.length = s.up.length := h.cl
  have hkl : s.ki.length = s.up.length := h.kl
  have hkd : ∀ i, i < s.n → (addN s p).ki.getD i [] = s.ki.getD i [] := fun i hi => getD_snoc_lt (by rw [hkl]; exact hi)
  have hkn : (addN s p).ki.getD s.n [] = [] := getD_snoc_eq hkl.symm
  refine ⟨⟨?_, ?_, ?_, ?_, ?_, ?_, .inl h.st, ?_, ?_, ?_, ?_⟩, ?_⟩
  · simpa using hb.set_ 0 _
  · rw [hn1]
    have e : flat3 ((addN s p).row fun i => if i = s.n then .slice none 0 0 else ks i) (s.n + 1) = flat3 (s.row ks) s.n ++ [.int .i64 (p : Int), .int .i64 (s.ca.getD p 0), .slice none 0 0] := by
      rw [flat3, flat3_congr (g := s.row ks)]
      · simp only [TS.row, addN, TS.n, getD_snoc_eq, getD_snoc_eq (hcl.symm), if_pos]
      · intro i hi
        have hi' : i < s.up.length := hi
        simp only [TS.row, addN, if_neg (show ¬ i = s.n by omega), getD_snoc_lt hi', getD_snoc_lt (show i < s.ca.length by omega)]
    rw [e]
    exact ho.setCell (p := ⟨t, 0, none⟩) (own_ne_blk ho hb (by decide)) _
  · intro i hi
    rw [hn1] at hi
    by_cases hin : i = s.n
    · subst hin
      rw [hkn]
      simp only [if_pos]
      exact Own.nil_ _ _ _
    · have hi' : i < s.n := by omega
      rw [hkd i hi']
      simp only [if_neg hin]
      have h1 := (h.ko i hi')
      refine (Own.setCell (w := W3) (p := ⟨t, 0, none⟩) (Own.only (show Own w.drew _ _ _ _ _ from h1) hO ?_) (own_ne_blk (w := w) h1 h.tb (by decide)) _)
      rintro q hq (hq2 | rfl | hq2)
      · exact own_ne' h1 h.ao (by decide) q hq hq2
      · exact own_ne_blk h1 h.tb (by decide) hq
      · have := h1.lt hq; exact absurd hq2 (Nat.not_le.2 this)
  · intro i j hi hj hij q hq
    rw [hn1] at hi hj
    by_cases hin : i = s.n
    · simp [hin, Value.ownBlock] at hq
    · by_cases hjn : j = s.n
      · simp [hjn, Value.ownBlock]
      · simp only [if_neg hin, if_neg hjn] at hq ⊢
        exact h.kd i j (by omega) (by omega) hij q hq
  · rw [hn1]; simp [addN, hcl, TS.n]
  · rw [hn1]; simp [addN, hkl, TS.n]
  · intro q hq
    obtain rfl : g = q := by simpa [Value.ownBlock] using hq
    rcases hg with hg | hg
    · exact .inl (h.sa _ hg)
    · refine .inr ⟨hg, ?_⟩
      rw [← hgt]; exact ho.lt rfl
  · intro i hi q hq
    rw [hn1] at hi
    by_cases hin : i = s.n
    · simp [hin, Value.ownBlock] at hq
    · simp only [if_neg hin] at hq
      exact .inl (h.sk i (by omega) q hq)
  · rintro q (hq | ⟨_, hq⟩)
    · have := h.lt q hq; omega
    · exact hq
  · rw [hn1]; exact hn
  · refine Only.setCell (p := ⟨t, 0, none⟩) ?_ (fun _ => h.st) _
    have := hO.mono (S' := S) (fun q hl hq => hS q hq hl)
    exact ⟨this.os, this.tape, this.output, this.size, this.block⟩

/-- A node's kids have been appended to. -/
def KidMid (w0 : World) (gx : Nat) (W : World) (v kv : Value) (m : Nat) (xs : List Value) (x : Value) : Prop :=
  ∃ g off cap, v = .slice (some ⟨g, off, none⟩) (m + 1) cap ∧ Own W 3 1 v (m + 1) (xs ++ [x]) ∧ Only (fun k => kv.ownBlock = some k ∨ k = gx ∨ w0.heap.size ≤ k) w0 W ∧ (kv.ownBlock = some g ∨ w0.heap.size ≤ g)
theorem kidMid_of {w0 W w4 : World} {gx g off n c : Nat} {xs : List Value} {x : Value} {kv : Value} (hpre : Below w0.heap.size w0 W) (ho : Own w4 3 1 (.slice (some ⟨g, off, none⟩) (n + 1) c) (n + 1) (xs ++ [x]))
    (hg : W.grownBy w4 kv.ownBlock) (hat : kv.ownBlock = some g ∨ g = W.heap.size) : KidMid w0 gx w4 (.slice (some ⟨g, off, none⟩) (n + 1) c) kv n xs x := by
  refine ⟨g, off, c, rfl, ho, ?_, ?_⟩
  · exact ((Only.of_below hpre).mono (S' := fun k => kv.ownBlock = some k ∨ k = gx ∨ w0.heap.size ≤ k) (fun k _ hk => .inr (.inr hk))).grown hg (fun k hk _ => .inl hk)
  · rcases hat with h | h
    · exact .inl h
    · exact .inr (by rw [h]; exact hpre.size)
theorem KidMid.set {w0 W : World} {gx m : Nat} {u kv av : Value} {xs ys : List Value} {c : Value} {n : Nat} (h : KidMid w0 gx W u kv m xs c) (hb : Own W 52 3 av n ys) (hg : av.ownBlock = some gx) (i : Nat) (x : Value) : KidMid w0 gx (W.setCell ⟨gx, i, none⟩ x) u kv m xs c := by
  obtain ⟨g, off, cap, e, ho, hO, hgg⟩ := h
  exact ⟨g, off, cap, e, ho.setCell (p := ⟨gx, i, none⟩) (fun e => own_ne' ho hb (by decide) gx e hg) _, hO.setCell (p := ⟨gx, i, none⟩) (fun _ => .inr (.inl rfl)) _, hgg⟩
/-- The tree and its nodes lie as they lay. -/
def KidPre (t : Nat) (av : Value) (n : Nat) (ys : List Value) (W : World) : Prop := Blk W t 55 #[av] ∧ Own W 52 3 av n ys
theorem KidPre.read {W : World} {t n k g off cap : Nat} {s : TS} {ks : Nat → Value} (h : KidPre t (.slice (some ⟨g, off, none⟩) n cap) n (flat3 (s.row ks) n) W) (hk : k < n) :
    W.cell? ⟨t, 0, none⟩ = some (.slice (some ⟨g, off, none⟩) n cap) ∧ W.cell? ⟨g, off + k * 3 + 2, none⟩ = some (ks k) ∧ ∀ j, W.frozen? ⟨g, j, none⟩ = false := by
  obtain ⟨h1, h2⟩ := h
  obtain ⟨g', off', cap', hv, _, _, _, hc, hf⟩ := h2.form (by omega)
  simp only [Value.slice.injEq, Option.some.injEq, Addr.mk.injEq, true_and, and_true] at hv
  obtain ⟨⟨rfl, rfl⟩, rfl⟩ := hv
  obtain ⟨_, _, h3⟩ := flat3_get (s.row ks) n k hk
  exact ⟨by rw [h1.cell]; rfl, by rw [Nat.add_assoc, hc (k * 3 + 2) (by omega), h3]; rfl, hf⟩
theorem KidMid.rep {W3 : World} {v : Value} {p m g off cap : Nat} {av : Value} (hav : av = .slice (some ⟨g, off, none⟩) s.n cap) (h : RepA w S t av ks s) (hp : p < s.n)
    (hm : KidMid w.drew g W3 v (ks p) (s.ki.getD p []).length ((s.ki.getD p []).map nV) (nV m)) (hb : KidPre t av s.n (flat3 (s.row ks) s.n) W3) (hW : W = W3.setCell ⟨g, off + p * 3 + 2, none⟩ v) :
    RepA W (fun q => S q ∨ w.heap.size ≤ q ∧ q < W.heap.size) t av (fun i => if i = p then v else ks i) { s with ki := s.ki.set p (s.ki.getD p [] ++ [m]) } ∧ Only S w W := by
  subst hW
  subst hav
  obtain ⟨g2, o2, c2, rfl, ho, hO, hg⟩ := hm
  obtain ⟨hbt, hba⟩ := hb
  have hgt : g ≠ t := fun e => own_ne_blk h.ao h.tb (by decide) (by rw [← e]; rfl)
  have hS : ∀ q, (ks p).ownBlock = some q ∨ q = g ∨ w.heap.size ≤ q → q < w.heap.size → S q := by
    rintro q (hq | rfl | hq) hlt
    · exact h.sk p hp q hq
    · exact h.sa _ rfl
    · omega
  have hsz : w.heap.size ≤ W3.heap.size := hO.size
  have hsg : ∀ u : Value, W3.heap.size = (W3.setCell ⟨g, off + p * 3 + 2, none⟩ u).heap.size := fun u => by simp [World.setCell]
  have hkl : p < s.ki.length := by rw [h.kl]; exact hp
  refine ⟨⟨hbt.far (p := ⟨g, off + p * 3 + 2, none⟩) (Ne.symm hgt) _, ?_, ?_, ?_, h.cl, ?_, .inl h.st, fun q hq => .inl (h.sa q hq), ?_, ?_, h.nn⟩, ?_⟩
  · have := hba.store (p * 3 + 2) (by omega) (.slice (some ⟨g2, o2, none⟩) ((s.ki.getD p []).length + 1) c2)
    rw [← Nat.add_assoc, flat3_set _ p 2 (by omega) _ _ hp] at this
    show Own _ _ _ _ s.n _
    rw [flat3_congr (g := TS.row { s with ki := s.ki.set p (s.ki.getD p [] ++ [m]) } fun i => if i = p then .slice (some ⟨g2, o2, none⟩) ((s.ki.getD p []).length + 1) c2 else ks i)] at this
    · exact this
    · intro k hk
      by_cases hki : k = p
      · subst hki
        simp only [if_pos, TS.row]
        rfl
      · simp only [if_neg hki, TS.row]
  · intro i hi
    have hi' : i < s.n := hi
    show Own _ _ _ _ ((s.ki.set p (s.ki.getD p [] ++ [m])).getD i []).length (((s.ki.set p (s.ki.getD p [] ++ [m])).getD i []).map nV)
    rw [getD_set hkl]
    by_cases hip : i = p
    · subst hip
      simp only [if_pos, List.length_append, List.length_cons, List.length_nil, List.map_append, List.map_cons, List.map_nil]
      exact ho.setCell (p := ⟨g, off + i * 3 + 2, none⟩) (fun e => own_ne' ho hba (by decide) g e rfl) _
    · simp only [if_neg hip]
      have h1 := h.ko i hi'
      refine (Own.setCell (w := W3) (p := ⟨g, off + p * 3 + 2, none⟩) (Own.only (show Own w.drew _ _ _ _ _ from h1) hO ?_) (fun e => own_ne' h1 h.ao (by decide) g e rfl) _)
      rintro q hq (hq2 | rfl | hq2)
      · exact h.kd i p hi' hp hip q hq hq2
      · exact own_ne' h1 h.ao (by decide) _ hq rfl
      · have := h1.lt hq; exact absurd hq2 (Nat.not_le.2 this)
  · intro i j hi hj hij q hq
    have hi' : i < s.n := hi
    have hj' : j < s.n := hj
    have new : ∀ a, a < s.n → a ≠ p → ∀ q, (ks a).ownBlock = some q → q ≠ g2 := by
      rintro a ha hap q hqa rfl
      rcases hg with hg | hg
      · exact h.kd a p ha hp hap _ hqa hg
      · have := (h.ko a ha).lt hqa; exact absurd hg (Nat.not_le.2 this)
    by_cases hip : i = p
    · have hjp : j ≠ p := fun e => hij (hip.trans e.symm)
      simp only [if_pos hip, if_neg hjp] at hq ⊢
      obtain rfl : g2 = q := by simpa [Value.ownBlock] using hq
      exact fun e => new j hj' hjp _ e rfl
    · by_cases hjp : j = p
      · simp only [if_neg hip, if_pos hjp] at hq ⊢
        intro e
        obtain rfl : g2 = q := by simpa [Value.ownBlock] using e
        exact new i hi' hip _ hq rfl
      · simp only [if_neg hip, if_neg hjp] at hq ⊢
        exact h.kd i j hi' hj' hij q hq
  · show (s.ki.set _ _).length = s.n
    rw [List.length_set]; exact h.kl
  · intro i hi q hq
    by_cases hip : i = p
    · simp only [if_pos hip] at hq
      obtain rfl : g2 = q := by simpa [Value.ownBlock] using hq
      rcases hg with hg | hg
      · exact .inl (h.sk p hp _ hg)
      · refine .inr ⟨hg, ?_⟩
        rw [← hsg]; exact ho.lt rfl
    · simp only [if_neg hip] at hq
      exact .inl (h.sk i hi q hq)
  · rintro q (hq | ⟨_, hq⟩)
    · have := h.lt q hq; rw [← hsg]; exact Nat.lt_of_lt_of_le this hsz
    · exact hq
  · refine Only.setCell (p := ⟨g, off + p * 3 + 2, none⟩) ?_ (fun _ => h.sa g rfl) _
    have := hO.mono (S' := S) (fun q hl hq => hS q hq hl)
    exact ⟨this.os, this.tape, this.output, this.size, this.block⟩
end
end Go.Proofs.Ytddklpphcfgooaa
