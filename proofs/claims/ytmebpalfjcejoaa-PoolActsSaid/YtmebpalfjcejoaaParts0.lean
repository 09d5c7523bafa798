/-
  The plain law of PoolParts: each buffer is free or held; no condition beyond those that each theorem states.
-/
import Derived.Test.YtmebpalfjcejoaaRound0
namespace Go.Proofs.Ytmebpalfjcejoaa
open Go.RowKit Go.Rb

/-- n buffers of at most z octets; the line's are the free ones; none is held more than b times. -/
structure PartsInv (n z b : Nat) (s : PS) : Prop where
  hl : s.hs.length = n
  bl : s.bs.length = n
  hz : s.size = z
  nd : s.ln.Nodup
  lt : ∀ x ∈ s.ln, x < n
  mem : ∀ i, i < n → (i ∈ s.ln ↔ s.hs.getD i 0 = 0)
  sz : ∀ i, (s.bs.getD i []).length ≤ z
  emp : ∀ i, i < n → s.hs.getD i 0 = 0 → s.bs.getD i [] = []
  hb : ∀ i, s.hs.getD i 0 ≤ b

theorem PartsInv.init (n z : Nat) : PartsInv n z 1 (newS n z) := by
  have hg : ∀ i, (List.replicate n ([] : List UInt8)).getD i [] = [] := by
    intro i
    rw [List.getD_eq_getElem?_getD, List.getElem?_replicate]
    split <;> rfl
  have hh : ∀ i, (List.replicate n 0).getD i 0 = 0 := by
    intro i
    rw [List.getD_eq_getElem?_getD, List.getElem?_replicate]
    split <;> rfl
  refine ⟨by simp [newS], by simp [newS], rfl, by simpa [newS] using List.nodup_range, by simp [newS], fun i hi => ?_, fun i => ?_, fun i _ _ => hg i, fun i => ?_⟩
  · show i ∈ List.range n ↔ (List.replicate n 0).getD i 0 = 0
    rw [hh]; simp [hi]
  · show ((List.replicate n ([] : List UInt8)).getD i []).length ≤ z
    rw [hg]; simp
  · show (List.replicate n 0).getD i 0 ≤ 1
    rw [hh]; omega
theorem PartsInv.more {n z b b' : Nat} {s : PS} (h : PartsInv n z b s) (hb : b ≤ b') : PartsInv n z b' s :=
  ⟨h.hl, h.bl, h.hz, h.nd, h.lt, h.mem, h.sz, h.emp, fun i => Nat.le_trans (h.hb i) hb⟩
theorem PartsInv.len {n z b : Nat} {s : PS} (h : PartsInv n z b s) : s.ln.length ≤ n := nodup_le n s.ln h.nd h.lt
theorem PartsInv.take {n z b : Nat} {s : PS} (h : PartsInv n z b s) (hb : 1 ≤ b) : PartsInv n z b (takeS s) := by
  unfold takeS
  split
  · exact h
  · rename_i k t hl
    have hk : k < n := h.lt k (by rw [hl]; simp)
    have hnd := h.nd
    rw [hl] at hnd
    have hkt := (List.nodup_cons.1 hnd).1
    refine ⟨by simp [h.hl], h.bl, h.hz, (List.nodup_cons.1 hnd).2, fun x hx => h.lt x (by rw [hl]; simp [hx]), fun i hi => ?_, h.sz, fun i hi h0 => ?_, fun i => ?_⟩
    · show i ∈ t ↔ _
      rw [getD_set _ _ _ _ (by rw [h.hl]; exact hk)]
      by_cases hik : k = i
      · subst hik; simp [hkt]
      · rw [if_neg hik, ← h.mem i hi, hl]; simp [Ne.symm hik]
    · change (s.hs.set k 1).getD i 0 = 0 at h0
      rw [getD_set _ _ _ _ (by rw [h.hl]; exact hk)] at h0
      by_cases hik : k = i
      · rw [if_pos hik] at h0; omega
      · rw [if_neg hik] at h0; exact h.emp i hi h0
    · show (s.hs.set k 1).getD i 0 ≤ b
      rw [getD_set _ _ _ _ (by rw [h.hl]; exact hk)]
      split
      · exact hb
      · exact h.hb i
theorem PartsInv.fill {n z b : Nat} {s : PS} (h : PartsInv n z b s) (i : Int) (c : List UInt8) : PartsInv n z b (fillS s i c) := by
  unfold fillS
  split
  · rename_i he
    unfold fillE at he
    by_cases hh : heldB s i
    · obtain ⟨k, rfl, hk, h0, -, -, -⟩ := held_cases hh
      rw [if_pos hh] at he
      have hc : c.length ≤ z := by
        split at he
        · omega
        · split at he
          · omega
          · rename_i hz; rw [h.hz] at hz; omega
      have hkn : k < n := by rw [← h.hl]; exact hk
      simp only [Int.toNat_natCast]
      refine ⟨h.hl, by simp [h.bl], h.hz, h.nd, h.lt, h.mem, fun j => ?_, fun j hj hj0 => ?_, h.hb⟩
      · show ((s.bs.set k c).getD j []).length ≤ z
        rw [getD_setB _ _ _ _ (by rw [h.bl]; exact hkn)]
        split
        · exact hc
        · exact h.sz j
      · show (s.bs.set k c).getD j [] = []
        rw [getD_setB _ _ _ _ (by rw [h.bl]; exact hkn)]
        by_cases hjk : k = j
        · subst hjk
          change s.hs.getD k 0 = 0 at hj0
          omega
        · rw [if_neg hjk]; exact h.emp j hj hj0
    · rw [if_neg hh] at he; omega
  · exact h
theorem PartsInv.hold {n z b : Nat} {s : PS} (h : PartsInv n z b s) (i : Int) : PartsInv n z (b + 1) (holdS s i) := by
  unfold holdS
  split
  · rename_i hh
    obtain ⟨k, rfl, hk, h0, hO, -, -⟩ := held_cases hh
    have hkn : k < n := by rw [← h.hl]; exact hk
    rw [hO]
    simp only [Int.toNat_natCast]
    have hg := fun j => getD_set s.hs k j (s.hs.getD k 0 + 1) (by rw [h.hl]; exact hkn)
    refine ⟨by simp [h.hl], h.bl, h.hz, h.nd, h.lt, fun j hj => ?_, h.sz, fun j hj hj0 => ?_, fun j => ?_⟩
    · show j ∈ s.ln ↔ (s.hs.set k _).getD j 0 = 0
      rw [hg, h.mem j hj]
      by_cases hjk : k = j
      · subst hjk; rw [if_pos rfl]; omega
      · rw [if_neg hjk]
    · change (s.hs.set k _).getD j 0 = 0 at hj0
      rw [hg] at hj0
      by_cases hjk : k = j
      · rw [if_pos hjk] at hj0; omega
      · rw [if_neg hjk] at hj0; exact h.emp j hj hj0
    · show (s.hs.set k _).getD j 0 ≤ b + 1
      rw [hg]
      have := h.hb k
      have := h.hb j
      split <;> omega
  · exact h.more (by omega)
theorem PartsInv.drop {n z b : Nat} {s : PS} (h : PartsInv n z b s) (i : Int) : PartsInv n z b (dropS s i) := by
  unfold dropS
  split
  · rename_i hh
    obtain ⟨k, rfl, hk, h0, hO, -, -⟩ := held_cases hh
    have hkn : k < n := by rw [← h.hl]; exact hk
    rw [hO]
    simp only [Int.toNat_natCast]
    have hkl : k ∉ s.ln := by rw [h.mem k hkn]; omega
    split
    · have hg := fun j => getD_set s.hs k j 0 (by rw [h.hl]; exact hkn)
      have hgb := fun j => getD_setB s.bs k j [] (by rw [h.bl]; exact hkn)
      have hp : (s.ln ++ [k]).Perm (k :: s.ln) := List.perm_append_singleton k s.ln
      refine ⟨by simp [h.hl], by simp [h.bl], h.hz, hp.nodup_iff.2 (List.nodup_cons.2 ⟨hkl, h.nd⟩), fun x hx => ?_, fun j hj => ?_, fun j => ?_, fun j hj hj0 => ?_, fun j => ?_⟩
      · rcases List.mem_append.1 hx with hx | hx
        · exact h.lt x hx
        · simp at hx; omega
      · show j ∈ s.ln ++ [k] ↔ (s.hs.set k 0).getD j 0 = 0
        rw [hg]
        by_cases hjk : k = j
        · subst hjk; simp
        · rw [if_neg hjk, ← h.mem j hj]; simp [Ne.symm hjk]
      · show ((s.bs.set k []).getD j []).length ≤ z
        rw [hgb]
        split
        · simp
        · exact h.sz j
      · show (s.bs.set k []).getD j [] = []
        rw [hgb]
        by_cases hjk : k = j
        · rw [if_pos hjk]
        · rw [if_neg hjk]
          change (s.hs.set k 0).getD j 0 = 0 at hj0
          rw [hg, if_neg hjk] at hj0
          exact h.emp j hj hj0
      · show (s.hs.set k 0).getD j 0 ≤ b
        rw [hg]
        have := h.hb j
        split <;> omega
    · rename_i h1
      have hg := fun j => getD_set s.hs k j (s.hs.getD k 0 - 1) (by rw [h.hl]; exact hkn)
      refine ⟨by simp [h.hl], h.bl, h.hz, h.nd, h.lt, fun j hj => ?_, h.sz, fun j hj hj0 => ?_, fun j => ?_⟩
      · show j ∈ s.ln ↔ (s.hs.set k _).getD j 0 = 0
        rw [hg, h.mem j hj]
        by_cases hjk : k = j
        · subst hjk; rw [if_pos rfl]; omega
        · rw [if_neg hjk]
      · change (s.hs.set k _).getD j 0 = 0 at hj0
        rw [hg] at hj0
        by_cases hjk : k = j
        · rw [if_pos hjk] at hj0; omega
        · rw [if_neg hjk] at hj0; exact h.emp j hj hj0
      · show (s.hs.set k _).getD j 0 ≤ b
        rw [hg]
        have := h.hb k
        have := h.hb j
        split <;> omega
  · exact h

/-- How many of the first k are held. -/
def cntH (s : PS) : Nat → Nat
  | 0 => 0
  | k + 1 => cntH s k + (if 0 < s.hs.getD k 0 then 1 else 0)
theorem filt_step (k : Nat) : ∀ (l : List Nat), l.Nodup → (l.filter fun x => decide (x < k + 1)).length = (l.filter fun x => decide (x < k)).length + (if k ∈ l then 1 else 0)
  | [], _ => rfl
  | x :: l, hn => by
    have ih := filt_step k l (List.nodup_cons.1 hn).2
    have hx := (List.nodup_cons.1 hn).1
    by_cases h1 : x = k
    · subst h1
      simp [ih, hx]
    · have h2 : (x < k + 1) = (x < k) := by simp; omega
      have h3 : (k ∈ x :: l) = (k ∈ l) := by simp [Ne.symm h1]
      simp only [List.filter_cons, h2, h3]
      split <;> simp [ih] <;> omega
theorem PartsInv.count {n z b : Nat} {s : PS} (h : PartsInv n z b s) : ∀ k, k ≤ n → cntH s k + (s.ln.filter fun x => decide (x < k)).length = k
  | 0, _ => by simp [cntH]
  | k + 1, hk => by
    have ih := h.count k (by omega)
    rw [filt_step k s.ln h.nd, cntH]
    have := h.mem k (by omega)
    by_cases h0 : s.hs.getD k 0 = 0
    · rw [if_neg (by omega), if_pos (this.2 h0)]; omega
    · rw [if_pos (by omega), if_neg (fun hm => h0 (this.1 hm))]; omega
theorem PartsInv.all {n z b : Nat} {s : PS} (h : PartsInv n z b s) : cntH s n + s.ln.length = n := by
  have := h.count n (Nat.le_refl _)
  rwa [List.filter_eq_self.2 (fun x hx => by simpa using h.lt x hx)] at this
theorem cntH_le (s : PS) : ∀ k, cntH s k ≤ k
  | 0 => Nat.le_refl _
  | k + 1 => by have := cntH_le s k; rw [cntH]; split <;> omega
theorem PartsInv.bytes {n z b : Nat} {s : PS} (h : PartsInv n z b s) : bytesO s ≤ cntH s n * z := by
  have hk : ∀ k, k ≤ n → ((s.bs.take k).map List.length).sum ≤ cntH s k * z := by
    intro k
    induction k with
    | zero => intro _; simp
    | succ k ih =>
      intro hk
      rw [sum_step s.bs k (by rw [h.bl]; omega), cntH, Nat.add_mul]
      have h1 := ih (by omega)
      by_cases h0 : s.hs.getD k 0 = 0
      · rw [h.emp k (by omega) h0, if_neg (by omega)]; simp only [List.length_nil]; omega
      · rw [if_pos (by omega)]
        have := h.sz k
        omega
  have := hk n (Nat.le_refl _)
  rwa [List.take_of_length_le (by rw [h.bl]; omega)] at this
theorem PartsInv.holds0 {n z b : Nat} {s : PS} (h : PartsInv n z b s) {x : Nat} (hx : x ∈ s.ln) : holdsO s (x : Int) = 0 := by
  have := (h.mem x (h.lt x hx)).1 hx
  unfold holdsO
  rw [if_neg]
  rintro ⟨-, -, h3⟩
  rw [Int.toNat_natCast] at h3
  omega
theorem PartsInv.holds {n z b : Nat} {s : PS} (h : PartsInv n z b s) {k : Nat} (hk : k < n) : holdsO s (k : Int) = s.hs.getD k 0 := by
  unfold holdsO
  by_cases h0 : 0 < s.hs.getD k 0
  · rw [if_pos ⟨by omega, by rw [h.hl]; omega, by rw [Int.toNat_natCast]; exact h0⟩]
    simp [hOf]
  · rw [if_neg (fun hh => h0 (by have := hh.2.2; rwa [Int.toNat_natCast] at this))]; omega
theorem PartsInv.hOf_le {n z b : Nat} {s : PS} (h : PartsInv n z b s) (i : Int) : hOf s i ≤ b := h.hb _
end Go.Proofs.Ytmebpalfjcejoaa
