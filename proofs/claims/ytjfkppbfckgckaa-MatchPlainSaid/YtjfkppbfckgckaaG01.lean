/-
  general facts for the proofs of this seat: what a call may change ('Only'), blocks that are known whole ('Blk'), slices of the call's own ('Own') and append on them; a rule for regions that draw their order: each operation is walked once, from whatever state its predecessors may have left ('region_rg'); new slices of numbers; programs, what is reached by them, and all matches: plain laws; contracts of the functions of package code (Is, Size, length) and of reedbedref01 (Is, Size); contracts of code.Put and of reedbedref01.Put; the contract of reedbedref01.Put; the law's example awake answers true; contracts of code.length and of code.Get; no condition beyond those that each theorem states.
-/
import Derived.Test.YtjfkppbfckgckaaRows
import Derived.WalkKit
import Derived.ProofKit
import Derived.OpenShut
import Derived.ShutString
import Derived.ChangeOld
import Derived.ChangeSame
import Derived.WalkSpells
import Derived.WalkLawsBesides
import Derived.Lib.Hide
import Derived.IntWalk
import Derived.Deep.RegionWith
import Derived.Deep.QuietTactic
import Derived.BigQuiet
import Derived.Deep.RegionHeld3
import Derived.Deep.AppendLies
import Derived.Deep.Slices
import Derived.Deep.Fields
import Derived.Deep.OwnRows
import Derived.LoopN
set_option linter.unusedVariables false
set_option linter.unusedSimpArgs false
namespace Go.Rb
open Go.RowKit

/-! ### What may have changed -/
structure Only (S : Nat → Prop) (w w' : World) : Prop where
  os : w'.os = w.os
  tape : w'.tape = w.tape
  output : w'.output = w.output
  size : w.heap.size ≤ w'.heap.size
  block : ∀ k, k < w.heap.size → ¬ S k → w'.heap[k]? = w.heap[k]?

section
variable {S S' : Nat → Prop} {w w' w'' : World}
theorem Only.refl (S : Nat → Prop) (w : World) : Only S w w := ⟨rfl, rfl, rfl, Nat.le_refl _, fun _ _ _ => rfl⟩
theorem Only.mono (h : Only S w w') (hs : ∀ k, k < w.heap.size → S k → S' k) : Only S' w w' := ⟨h.os, h.tape, h.output, h.size, fun k hk hn => h.block k hk (fun e => hn (hs k hk e))⟩
theorem Only.trans (h : Only S w w') (h' : Only S' w' w'') (hs : ∀ k, k < w.heap.size → S' k → S k) : Only S w w'' :=
  ⟨h'.os.trans h.os, h'.tape.trans h.tape, h'.output.trans h.output, Nat.le_trans h.size h'.size, fun k hk hn =>
    (h'.block k (Nat.lt_of_lt_of_le hk h.size) (fun e => hn (hs k hk e))).trans (h.block k hk hn)⟩
theorem Only.drew (h : Only S w w') : Only S w w'.drew := ⟨h.os, h.tape, h.output, h.size, h.block⟩
theorem Only.drewN (h : Only S w w') (n : Nat) : Only S w (w'.drewN n) := ⟨h.os, h.tape, h.output, h.size, h.block⟩
theorem Only.alloc (h : Only S w w') (o : Obj) : Only S w (w'.alloc o) :=
  ⟨h.os, h.tape, h.output, Nat.le_trans h.size (by simp), fun k hk hn => (Below.heap_alloc _ _ _ (Nat.lt_of_lt_of_le hk h.size)).trans (h.block k hk hn)⟩
theorem Only.setCell (h : Only S w w') {p : Addr} (hp : p.block < w.heap.size → S p.block) (u : Value) : Only S w (w'.setCell p u) :=
  ⟨h.os, h.tape, h.output, by simpa [World.setCell] using h.size, fun k hk hn => (Below.heap_setCell w' p u k (by rintro rfl; exact hn (hp hk))).trans (h.block k hk hn)⟩
theorem Only.grown (h : Only S w w') {row : Option Nat} (hg : w'.grownBy w'' row) (hr : ∀ k, row = some k → k < w.heap.size → S k) : Only S w w'' :=
  ⟨hg.os.trans h.os, hg.tape.trans h.tape, hg.output.trans h.output, Nat.le_trans h.size hg.size, fun k hk hn =>
    (hg.block k (Nat.lt_of_lt_of_le hk h.size) (fun e => hn (hr k e.symm hk))).trans (h.block k hk hn)⟩
theorem Only.of_grown {row : Option Nat} (hg : w.grownBy w' row) : Only (fun k => row = some k) w w' := ⟨hg.os, hg.tape, hg.output, hg.size, fun k hk hn => hg.block k hk (fun e => hn e.symm)⟩
theorem Only.of_below {B : Nat} (h : Below B w w') : Only (fun k => B ≤ k) w w' := ⟨h.os, h.tape, h.output, h.size, fun k _ hn => h.block k (by omega)⟩
theorem Only.below {B : Nat} (h : Only S w w') (hB : B ≤ w.heap.size) (hs : ∀ k, S k → B ≤ k) : Below B w w' :=
  ⟨h.os, h.tape, h.output, h.size, fun k hk => h.block k (by omega) (fun e => by have := hs k e; omega)⟩
theorem Only.cell (h : Only S w w') {p : Addr} (hp : p.block < w.heap.size) (hn : ¬ S p.block) : w'.cell? p = w.cell? p := World.cell?_of_block (w := w) (h.block p.block hp hn)
theorem Only.frozen (h : Only S w w') {p : Addr} (hp : p.block < w.heap.size) (hn : ¬ S p.block) : w'.frozen? p = w.frozen? p := World.frozen?_of_block (w := w) (h.block p.block hp hn)
end

/-- Quiet callees, for a region that draws: contracts that say 'w = w''. -/
theorem quiet_left {P : Program} {f : FuncId} {args : Array Value} {w : World} {n : Nat} {v : Value}
    (h : Calls P f args (w.drewN n) fun e w' => e = .returned v ∧ w.drewN n = w') : Calls P f args (w.drewN n) fun e w'' => e = .returned v ∧ ∃ m, w'' = w.drewN m :=
  h.mono fun _ _ ⟨he, hm⟩ => ⟨he, n, hm.symm⟩
theorem quiet_add_left {P : Program} {f : FuncId} {args : Array Value} {w : World} {a n : Nat} {v : Value}
    (h : Calls P f args (w.drewN (a + n)) fun e w' => e = .returned v ∧ w.drewN (a + n) = w') :
    Calls P f args (w.drewN (a + n)) fun e w'' => e = .returned v ∧ ∃ m, w'' = w.drewN (a + m) :=
  h.mono fun _ _ ⟨he, hm⟩ => ⟨he, n, hm.symm⟩

theorem below_drewN {B : Nat} {a w : World} (h : Below B a w) (n : Nat) : Below B a (w.drewN n) := ⟨h.os, h.tape, h.output, h.size, h.block⟩

theorem below_al {a w : World} (h : Below a.heap.size a w) (o : Obj) : Below a.heap.size a (w.alloc o) := h.alloc h.size o
theorem below_trans {a b c : World} (h : Below a.heap.size a b) (k : Below b.heap.size b c) : Below a.heap.size a c := h.trans (k.mono h.size)

/-! ### A block known whole -/
def Blk (w : World) (g : Nat) (t : TypeId) (cs : Array Value) : Prop := w.heap[g]? = some (.cells cs t (0, 0))

section
variable {w w' : World} {g : Nat} {t : TypeId} {cs : Array Value}
theorem Blk.lt (h : Blk w g t cs) : g < w.heap.size := (Array.getElem?_eq_some_iff.1 h).1
theorem Blk.cell (h : Blk w g t cs) (i : Nat) : w.cell? ⟨g, i, none⟩ = cs[i]? := cell_of_row w g i cs t (0, 0) h
theorem Blk.frozen (h : Blk w g t cs) (i : Nat) : w.frozen? ⟨g, i, none⟩ = false := by
  unfold Blk at h
  simp [World.frozen?, h]
theorem Blk.new (w : World) (t : TypeId) (cs : Array Value) : Blk (w.alloc (.cells cs t)) w.heap.size t cs := heap_alloc_new w _
theorem Blk.drew (h : Blk w g t cs) : Blk w.drew g t cs := h
theorem Blk.drewN (h : Blk w g t cs) (n : Nat) : Blk (w.drewN n) g t cs := h
theorem Blk.alloc (h : Blk w g t cs) (o : Obj) : Blk (w.alloc o) g t cs := (Below.heap_alloc w o g h.lt).trans h
theorem Blk.set_ (h : Blk w g t cs) (i : Nat) (u : Value) : Blk (w.setCell ⟨g, i, none⟩ u) g t (cs.setIfInBounds i u) := by
  unfold Blk at h ⊢
  simp [World.setCell, Array.getElem?_modify, h]
theorem Blk.far (h : Blk w g t cs) {p : Addr} (hp : g ≠ p.block) (u : Value) : Blk (w.setCell p u) g t cs := (Below.heap_setCell w p u g hp).trans h
theorem Blk.below {B : Nat} (h : Blk w g t cs) (hb : Below B w w') (hg : g < B) : Blk w' g t cs := (hb.block g hg).trans h
theorem Blk.only {S : Nat → Prop} (h : Blk w g t cs) (hb : Only S w w') (hg : ¬ S g) : Blk w' g t cs := (hb.block g h.lt hg).trans h
theorem Blk.grown {row : Option Nat} (h : Blk w g t cs) (hb : w.grownBy w' row) (hg : some g ≠ row) : Blk w' g t cs := (hb.block g h.lt hg).trans h
theorem Blk.ne_ {g' : Nat} {t' : TypeId} {cs' : Array Value} (h : Blk w g t cs) (h' : Blk w g' t' cs') (hne : t ≠ t') : g ≠ g' := by
  rintro rfl
  unfold Blk at h h'
  rw [h] at h'
  injection h' with h'
  injection h' with _ ht
  exact hne ht
end

/-! ### A slice of the call's own, wherever it begins -/
def Own (w : World) (e : TypeId) (sz : Nat) (v : Value) (n : Nat) (xs : List Value) : Prop :=
  xs.length = n * sz ∧ ((v = .slice none 0 0 ∧ n = 0) ∨
    ∃ g off cap cur, v = .slice (some ⟨g, off, none⟩) n cap ∧ w.heap[g]? = some (.cells cur e (0, 0)) ∧ n ≤ cap ∧ cap ≤ maxLen ∧ off + cap * sz ≤ cur.size ∧ (cur.toList.drop off).take (n * sz) = xs)

section
variable {w w' : World} {e : TypeId} {sz : Nat} {v : Value} {n : Nat} {xs : List Value}
theorem Own.nil_ (w : World) (e : TypeId) (sz : Nat) : Own w e sz (.slice none 0 0) 0 [] := ⟨by simp, .inl ⟨rfl, rfl⟩⟩
theorem Own.of_zero (h : Own w e sz v 0 xs) : xs = [] := List.eq_nil_of_length_eq_zero (by simpa using h.1)
theorem Own.lt (h : Own w e sz v n xs) {k : Nat} (hk : v.ownBlock = some k) : k < w.heap.size := by
  rcases h.2 with ⟨rfl, _⟩ | ⟨g, off, cap, cur, rfl, hg, _⟩
  · simp [Value.ownBlock] at hk
  · simp [Value.ownBlock] at hk
    subst hk
    exact (Array.getElem?_eq_some_iff.1 hg).1
theorem Own.keep (h : Own w e sz v n xs) (hb : ∀ k, v.ownBlock = some k → w'.heap[k]? = w.heap[k]?) : Own w' e sz v n xs := by
  refine ⟨h.1, ?_⟩
  rcases h.2 with hn | ⟨g, off, cap, cur, rfl, hg, r⟩
  · exact .inl hn
  · exact .inr ⟨g, off, cap, cur, rfl, (hb g rfl).trans hg, r⟩
theorem Own.only {S : Nat → Prop} (h : Own w e sz v n xs) (hb : Only S w w') (hs : ∀ k, v.ownBlock = some k → ¬ S k) : Own w' e sz v n xs :=
  h.keep fun k hk => hb.block k (h.lt hk) (hs k hk)
theorem Own.below {B : Nat} (h : Own w e sz v n xs) (hb : Below B w w') (hs : ∀ k, v.ownBlock = some k → k < B) : Own w' e sz v n xs :=
  h.keep fun k hk => hb.block k (hs k hk)
theorem Own.drew (h : Own w e sz v n xs) : Own w.drew e sz v n xs := h
theorem Own.drewN (h : Own w e sz v n xs) (q : Nat) : Own (w.drewN q) e sz v n xs := h
theorem Own.alloc (h : Own w e sz v n xs) (o : Obj) : Own (w.alloc o) e sz v n xs := h.keep fun _ hk => Below.heap_alloc _ _ _ (h.lt hk)
theorem Own.setCell (h : Own w e sz v n xs) {p : Addr} (hp : v.ownBlock ≠ some p.block) (u : Value) : Own (w.setCell p u) e sz v n xs :=
  h.keep fun k hk => Below.heap_setCell w p u k (fun e => hp (by rw [hk, e]))
theorem Own.grown {row : Option Nat} (h : Own w e sz v n xs) (hg : w.grownBy w' row) (hs : ∀ k, v.ownBlock = some k → row ≠ some k) : Own w' e sz v n xs :=
  h.keep fun k hk => hg.block k (h.lt hk) (fun e => hs k hk e.symm)
/-- The form of a slice that is not empty. -/
theorem Own.form (h : Own w e sz v n xs) (hn : 0 < n) : ∃ g off cap, v = .slice (some ⟨g, off, none⟩) n cap ∧ n ≤ cap ∧ cap ≤ maxLen ∧ g < w.heap.size ∧
    (∀ j, j < n * sz → w.cell? ⟨g, off + j, none⟩ = xs[j]?) ∧ ∀ j, w.frozen? ⟨g, j, none⟩ = false := by
  rcases h.2 with ⟨_, h0⟩ | ⟨g, off, cap, cur, rfl, hg, hnc, hcm, hsz, hx⟩
  · omega
  · refine ⟨g, off, cap, rfl, hnc, hcm, (Array.getElem?_eq_some_iff.1 hg).1, fun j hj => ?_, fun j => frozen_of_row w g j cur e hg⟩
    rw [cell_of_row w g (off + j) cur e (0, 0) hg, ← hx, List.getElem?_take, if_pos hj, List.getElem?_drop]
    simp
theorem Own.len_ (h : Own w e sz v n xs) : ∃ A cap, v = .slice A n cap ∧ n ≤ cap ∧ cap ≤ maxLen := by
  rcases h.2 with ⟨rfl, rfl⟩ | ⟨g, off, cap, cur, rfl, _, hnc, hcm, _⟩
  · exact ⟨none, 0, rfl, Nat.le_refl _, by simp [maxLen]⟩
  · exact ⟨_, _, rfl, hnc, hcm⟩
/-- Of a row of the kit's own. -/
theorem Own.of_row {base : Nat} (h : w.ownsRow base e sz v n xs) : Own w e sz v n xs := by
  refine ⟨h.1, ?_⟩
  rcases h.2 with hn | ⟨g, cap, cur, hv, _, hg, h1, h2, h3, h4⟩
  · exact .inl hn
  · exact .inr ⟨g, 0, cap, cur, hv, hg, h1, h2, by omega, by simpa using h4⟩
/-- A slice literal: a new block that it fills. -/
theorem Own.lit (w : World) (e : TypeId) (sz n : Nat) (cs : Array Value) (hs : cs.size = n * sz) (hm : n ≤ maxLen) :
    Own (w.alloc (.cells cs e)) e sz (.slice (some ⟨w.heap.size, 0, none⟩) n n) n cs.toList :=
  ⟨by simpa using hs, .inr ⟨_, 0, n, cs, rfl, heap_alloc_new w _, Nat.le_refl _, hm, by omega, by rw [List.drop_zero]; exact List.take_of_length_le (by simp [hs])⟩⟩
/-- A cell of it is written. -/
theorem Own.store {g off cap : Nat} (h : Own w e sz (.slice (some ⟨g, off, none⟩) n cap) n xs) (j : Nat) (hj : j < n * sz) (u : Value) :
    Own (w.setCell ⟨g, off + j, none⟩ u) e sz (.slice (some ⟨g, off, none⟩) n cap) n (xs.set j u) := by
  refine ⟨by simpa using h.1, .inr ?_⟩
  rcases h.2 with ⟨h0, _⟩ | ⟨g', off', cap', cur, hv, hg, hnc, hcm, hsz, hx⟩
  · simp at h0
  · simp only [Value.slice.injEq, Option.some.injEq, Addr.mk.injEq, true_and, and_true] at hv
    obtain ⟨⟨rfl, rfl⟩, rfl⟩ := hv
    refine ⟨g, off, cap, cur.setIfInBounds (off + j) u, rfl, Blk.set_ (t := e) hg _ _, hnc, hcm, by simpa using hsz, ?_⟩
    rw [← hx]
    apply List.ext_getElem?
    intro i
    simp only [Array.toList_setIfInBounds, List.getElem?_take, List.getElem?_drop, List.getElem?_set, List.length_take, List.length_drop, Array.length_toList]
    by_cases hi : i < n * sz
    · by_cases hij : j = i
      · subst hij
        have hle : n * sz ≤ cap * sz := Nat.mul_le_mul_right _ hnc
        have h2 : off + j < cur.size := by omega
        have h3 : j < min (n * sz) (cur.size - off) := by omega
        simp [hi, h2, h3]
      · have h4 : ¬ off + j = off + i := by omega
        simp [hi, hij, h4]
    · have hij : ¬ j = i := by omega
      simp [hi, hij]
/-- s[k:], as the model has it. -/
theorem Own.tail_ {g off cap : Nat} (h : Own w e sz (.slice (some ⟨g, off, none⟩) n cap) n xs) (k : Nat) (hk : k ≤ n) :
    Own w e sz (.slice (some (if cap = k then ⟨g, off, none⟩ else ⟨g, off + k * sz, none⟩)) (n - k) (cap - k)) (n - k) (xs.drop (k * sz)) := by
  refine ⟨by rw [List.length_drop, h.1, Nat.sub_mul], .inr ?_⟩
  rcases h.2 with ⟨h0, _⟩ | ⟨g', off', cap', cur, hv, hg, hnc, hcm, hsz, hx⟩
  · simp at h0
  · simp only [Value.slice.injEq, Option.some.injEq, Addr.mk.injEq, true_and, and_true] at hv
    obtain ⟨⟨rfl, rfl⟩, rfl⟩ := hv
    have hmul : (cap - k) * sz = cap * sz - k * sz := Nat.sub_mul _ _ _
    have hle : k * sz ≤ cap * sz := Nat.mul_le_mul_right _ (by omega)
    by_cases hc : cap = k
    · subst hc
      have hnk : n = cap := by omega
      subst hnk
      refine ⟨g, off, 0, cur, by simp, hg, by omega, by simp [maxLen], by omega, ?_⟩
      rw [← hx]
      simp
    · refine ⟨g, off + k * sz, cap - k, cur, by simp [hc], hg, by omega, by omega, by omega, ?_⟩
      rw [← hx, List.drop_take, List.drop_drop, Nat.sub_mul]
end

section
variable {P : Program} (w : World)

theorem run_append_mid (t ty e : TypeId) (i : TypeInfo) (ht : P.underlying t = some (.slice e)) (hi : P.info? e = some i)
    (g off sLen sCap : Nat) (cur : Array Value) (hg : w.heap[g]? = some (.cells cur e (0, 0)))
    (a : Addr) (m c : Nat) (news : List Value) (hl : news.length = m * i.size) (hnews : ∀ j u, news[j]? = some u → w.cell? (a.add j) = some u) (h1 : ∀ u ∈ news, u.oneCell' = true)
    (hroom : sLen + m ≤ sCap) (hfit : off + sLen * i.size + news.length ≤ cur.size) :
    (Builtin.append_ #[t, t] ty #[.slice (some ⟨g, off, none⟩) sLen sCap, .slice (some a) m c]).run P w =
      .ok (.slice (some ⟨g, off, none⟩) (sLen + m) sCap) (w.setRow g (cur.toList.take (off + sLen * i.size) ++ news ++ cur.toList.drop (off + sLen * i.size + news.length)).toArray) := by
  have hf := run_firstCells_some (P := P) w i.size m a m c news hl hnews
  have hst := run_storeCells_at P g (off + sLen * i.size) e news 0 cur w hg (by simpa using hfit) h1
  simp only [Nat.add_zero] at hst
  simp [Builtin.append_, run_underlying ht, sizeOf, typeInfo, hi, Builtin.lenOf, hroom, hf, Addr.add_lit, hst]

/-- append of one element or more onto a slice of the call's own. -/
theorem run_append_mine (t ty : TypeId) (e : TypeId) (i : TypeInfo) (z : Value) (sz bytes : Nat) (ht : P.underlying t = some (.slice e)) (hi : P.info? e = some i) (hz : i.zero = some z)
    (hsize : i.size = sz) (hby : i.bytes = bytes) (hzs : z.cells.size = sz) (hsz : 0 < sz)
    (v : Value) (n : Nat) (xs : List Value) (hown : Own w e sz v n xs)
    (a : Addr) (m c : Nat) (news : List Value) (hl : news.length = m * sz) (hnews : ∀ j u, news[j]? = some u → w.cell? (a.add j) = some u) (h1 : ∀ u ∈ news, u.oneCell' = true)
    (hm : 0 < m) (h63 : n + m ≤ maxLen) (hbytes : (n + m) * bytes ≤ 140737488355328) :
    ∃ g off cap w', (Builtin.append_ #[t, t] ty #[v, .slice (some a) m c]).run P w = .ok (.slice (some ⟨g, off, none⟩) (n + m) cap) w' ∧
      Own w' e sz (.slice (some ⟨g, off, none⟩) (n + m) cap) (n + m) (xs ++ news) ∧ w.grownBy w' v.ownBlock ∧ (v.ownBlock = some g ∨ g = w.heap.size) := by
  subst hsize
  subst hby
  have hsmall : n + m ≤ 9223372036854775807 := by simp only [maxLen] at h63; omega
  have hlen : (xs ++ news).length = (n + m) * i.size := by rw [List.length_append, hown.1, hl, Nat.add_mul]
  have grown : ∀ (old : Nat), old < n + m → ∀ (row : Option Nat),
      Own (w.drew.alloc (.cells (xs.toArray ++ news.toArray ++ Builtin.zeroCells z.cells (grownCap w (n + m) old e - (n + m))) e)) e i.size
        (.slice (some ⟨w.heap.size, 0, none⟩) (n + m) (grownCap w (n + m) old e)) (n + m) (xs ++ news) ∧
      w.grownBy (w.drew.alloc (.cells (xs.toArray ++ news.toArray ++ Builtin.zeroCells z.cells (grownCap w (n + m) old e - (n + m))) e)) row := by
    intro old ho row
    have hge := grownCap_ge w (n + m) old e
    have hcm : grownCap w (n + m) old e ≤ maxLen := grownCap_le_maxLen w (n + m) old e h63
    refine ⟨⟨hlen, .inr ⟨w.heap.size, 0, _, _, rfl, heap_alloc_new w.drew _, hge, hcm, ?_, ?_⟩⟩, ⟨rfl, rfl, rfl, by simp, fun k hk _ => Below.heap_alloc w.drew _ k hk⟩⟩
    · simp only [Array.size_append, List.size_toArray, size_zeroCells, hzs, hown.1, hl, ← Nat.add_mul]
      rw [show n + m + (grownCap w (n + m) old e - (n + m)) = grownCap w (n + m) old e by omega]
      omega
    · simp only [Array.toList_append, List.append_assoc, List.drop_zero]
      rw [← List.append_assoc, ← hlen]
      exact List.take_left
  rcases hown.2 with ⟨rfl, rfl⟩ | ⟨g, off, cap, cur, rfl, hg, hnc, hcm, hcs, htake⟩
  · have hx : xs = [] := List.eq_nil_of_length_eq_zero (by simpa using hown.1)
    subst hx
    have hr := run_append_nil (P := P) w t ty e i z ht hi hz a m c news hl hnews (by omega) (by omega) (by have hb := hbytes; simp only [Nat.zero_add] at hb; omega)
    have hgr := grown 0 (by omega) (Value.ownBlock (.slice none 0 0))
    simp only [Nat.zero_add, List.nil_append, Array.empty_append] at hgr ⊢
    exact ⟨_, _, _, _, hr, hgr.1, hgr.2, .inr rfl⟩
  · by_cases hroom : n + m ≤ cap
    · have hle : (n + m) * i.size ≤ cap * i.size := Nat.mul_le_mul_right _ hroom
      have hsum : (n + m) * i.size = n * i.size + m * i.size := Nat.add_mul _ _ _
      have hfit : off + n * i.size + news.length ≤ cur.size := by rw [hl]; omega
      have hr := run_append_mid (P := P) w t ty e i ht hi g off n cap cur hg a m c news hl hnews h1 hroom hfit
      refine ⟨_, _, _, _, hr, ⟨hlen, .inr ⟨g, off, cap, _, rfl, setRow_heap w g cur _ e _ hg, hroom, hcm, ?_, ?_⟩⟩, ⟨rfl, rfl, rfl, by simp, fun k _ hk => setRow_other w g k _ (fun e => hk (by simp [Value.ownBlock, e]))⟩, .inl (by simp [Value.ownBlock])⟩
      · simp only [List.size_toArray, List.length_append, List.length_take, List.length_drop, Array.length_toList]
        omega
      · rw [List.drop_append_of_le_length (by simp; omega), List.drop_append_of_le_length (by simp; omega), List.drop_take, Nat.add_sub_cancel_left, htake, ← hlen]
        exact List.take_left
    · have holds : ∀ j u, xs[j]? = some u → w.cell? ((⟨g, off, none⟩ : Addr).add j) = some u := by
        intro j u hu
        have hj : j < n * i.size := by have := (List.getElem?_eq_some_iff.1 hu).1; rw [hown.1] at this; exact this
        rw [Addr.add_lit, cell_of_row w g (off + j) cur e (0, 0) hg]
        rw [← htake, List.getElem?_take, if_pos hj, List.getElem?_drop] at hu
        simpa using hu
      have hr := run_append_grow (P := P) w t ty e i z ht hi hz ⟨g, off, none⟩ n cap xs hown.1 holds a m c news hl hnews (by omega) (by omega) (growslice_fits (by omega) hbytes)
      have hgr := grown cap (by omega) (Value.ownBlock (.slice (some ⟨g, off, none⟩) n cap))
      exact ⟨_, _, _, _, hr, hgr.1, hgr.2, .inr rfl⟩

theorem wp_append_mine {o : Oper} {a : Act} {K : Act → World → Prop} {Q : Exit → Act → World → Prop} (s x : Operand) (t : TypeId)
    (ho : o.op = .call { callee := .builtin .append, args := #[s, x], argTypes := #[t, t] })
    (e : TypeId) (i : TypeInfo) (z : Value) (sz bytes : Nat) (ht : P.underlying t = some (.slice e)) (hi : P.info? e = some i) (hz : i.zero = some z)
    (hsize : i.size = sz) (hby : i.bytes = bytes) (hzs : z.cells.size = sz) (hsz : 0 < sz)
    (v : Value) (n : Nat) (xs : List Value) (hs : a.eval s = v) (hown : Own w e sz v n xs)
    (ad : Addr) (m c : Nat) (news : List Value) (hx : a.eval x = .slice (some ad) m c) (hl : news.length = m * sz) (hnews : ∀ j u, news[j]? = some u → w.cell? (ad.add j) = some u) (h1 : ∀ u ∈ news, u.oneCell' = true)
    (hm : 0 < m) (h63 : n + m ≤ maxLen) (hbytes : (n + m) * bytes ≤ 140737488355328) (H : Nat) (hH : w.heap.size = H)
    (h : ∀ g off cap w', Own w' e sz (.slice (some ⟨g, off, none⟩) (n + m) cap) (n + m) (xs ++ news) → w.grownBy w' v.ownBlock → (v.ownBlock = some g ∨ g = H) → K (a.put o.dst (.slice (some ⟨g, off, none⟩) (n + m) cap)) w') : o.wp P a w K Q := by
  subst hH
  obtain ⟨g, off, cap, w', hr, h2, h3, h4⟩ := run_append_mine (P := P) w t o.type e i z sz bytes ht hi hz hsize hby hzs hsz v n xs hown ad m c news hl hnews h1 hm h63 hbytes
  unfold Oper.wp execOp
  simp only [ho, resolve, invoke, builtin, Sem.run_bind, Sem.run_pure, Result.andThen_ok, List.map_toArray, List.map_cons, List.map_nil, hs, hx, hr]
  exact h g off cap w' h2 h3 h4

theorem wpList_append_mine {ops : Array Oper} {rest : List Oper} {o : Oper} {a : Act} {Q : Exit → Act → World → Prop} (hgd : o.guard = none) (s x : Operand) (t : TypeId)
    (ho : o.op = .call { callee := .builtin .append, args := #[s, x], argTypes := #[t, t] })
    (e : TypeId) (i : TypeInfo) (z : Value) (sz bytes : Nat) (ht : P.underlying t = some (.slice e)) (hi : P.info? e = some i) (hz : i.zero = some z)
    (hsize : i.size = sz) (hby : i.bytes = bytes) (hzs : z.cells.size = sz) (hsz : 0 < sz)
    (v : Value) (n : Nat) (xs : List Value) (hs : a.eval s = v) (hown : Own w e sz v n xs)
    (ad : Addr) (m c : Nat) (news : List Value) (hx : a.eval x = .slice (some ad) m c) (hl : news.length = m * sz) (hnews : ∀ j u, news[j]? = some u → w.cell? (ad.add j) = some u) (h1 : ∀ u ∈ news, u.oneCell' = true)
    (hm : 0 < m) (h63 : n + m ≤ maxLen) (hbytes : (n + m) * bytes ≤ 140737488355328) (H : Nat) (hH : w.heap.size = H)
    (h : ∀ g off cap w', Own w' e sz (.slice (some ⟨g, off, none⟩) (n + m) cap) (n + m) (xs ++ news) → w.grownBy w' v.ownBlock → (v.ownBlock = some g ∨ g = H) → wpList P ops Q rest (a.put o.dst (.slice (some ⟨g, off, none⟩) (n + m) cap)) w') : wpList P ops Q (o :: rest) a w :=
  wpList_plain hgd fun _ hK => wp_append_mine w s x t ho e i z sz bytes ht hi hz hsize hby hzs hsz v n xs hs hown ad m c news hx hl hnews h1 hm h63 hbytes H hH fun g off cap w' h2 h3 h4 => hK _ _ (h g off cap w' h2 h3 h4)

theorem step_append_mine {ops : Array Oper} {o : Oper} {a : Act} {K : Act → World → Prop} {Q : Exit → Act → World → Prop} {E : Prop} (hgd : o.guard = none) (s x : Operand) (t : TypeId)
    (ho : o.op = .call { callee := .builtin .append, args := #[s, x], argTypes := #[t, t] })
    (e : TypeId) (i : TypeInfo) (z : Value) (sz bytes : Nat) (ht : P.underlying t = some (.slice e)) (hi : P.info? e = some i) (hz : i.zero = some z)
    (hsize : i.size = sz) (hby : i.bytes = bytes) (hzs : z.cells.size = sz) (hsz : 0 < sz)
    (v : Value) (n : Nat) (xs : List Value) (hs : a.eval s = v) (hown : Own w e sz v n xs)
    (ad : Addr) (m c : Nat) (news : List Value) (hx : a.eval x = .slice (some ad) m c) (hl : news.length = m * sz) (hnews : ∀ j u, news[j]? = some u → w.cell? (ad.add j) = some u) (h1 : ∀ u ∈ news, u.oneCell' = true)
    (hm : 0 < m) (h63 : n + m ≤ maxLen) (hbytes : (n + m) * bytes ≤ 140737488355328) (H : Nat) (hH : w.heap.size = H)
    (h : ∀ g off cap w', Own w' e sz (.slice (some ⟨g, off, none⟩) (n + m) cap) (n + m) (xs ++ news) → w.grownBy w' v.ownBlock → (v.ownBlock = some g ∨ g = H) → K (a.put o.dst (.slice (some ⟨g, off, none⟩) (n + m) cap)) w') :
    if Region.wanted o (yielded ops a.tmps) = true then Oper.wp P o a w K Q else E := by
  have hw : Region.wanted o (yielded ops a.tmps) = true := by simp [Region.wanted, hgd]
  rw [if_pos hw]
  exact wp_append_mine w s x t ho e i z sz bytes ht hi hz hsize hby hzs hsz v n xs hs hown ad m c news hx hl hnews h1 hm h63 hbytes H hH h
end

/-- The one new cell that 'append(s, x)' lays first. -/
theorem news_one (w : World) (x : Value) (t : TypeId) : ∀ j u, [x][j]? = some u → (w.alloc (.cells #[x] t)).cell? ((⟨w.heap.size, 0, none⟩ : Addr).add j) = some u :=
  World.news_of_block (cs := #[x]) (heap_alloc_new w _)
theorem news_cs (w : World) (cs : Array Value) (t : TypeId) : ∀ j u, cs.toList[j]? = some u → (w.alloc (.cells cs t)).cell? ((⟨w.heap.size, 0, none⟩ : Addr).add j) = some u :=
  World.news_of_block (heap_alloc_new w _)

theorem Own.of_heap {w w' : World} {e : TypeId} {sz : Nat} {v : Value} {n : Nat} {xs : List Value} (h : Own w e sz v n xs) (he : w'.heap = w.heap) : Own w' e sz v n xs :=
  h.keep fun _ _ => by rw [he]
theorem news_push {W X : World} {g : Nat} {x : Value} {t : TypeId} (hW : W.heap = (X.alloc (.cells #[x] t)).heap) (hg : g = X.heap.size) :
    ∀ j u, [x][j]? = some u → W.cell? ((⟨g, 0, none⟩ : Addr).add j) = some u :=
  World.news_of_block (cs := #[x]) (fr := (0, 0)) (t := t) (by rw [hW, hg]; exact heap_alloc_new X _)
theorem news_pushs {W X : World} {g : Nat} {cs : Array Value} {t : TypeId} (hW : W.heap = (X.alloc (.cells cs t)).heap) (hg : g = X.heap.size) :
    ∀ j u, cs.toList[j]? = some u → W.cell? ((⟨g, 0, none⟩ : Addr).add j) = some u :=
  World.news_of_block (cs := cs) (fr := (0, 0)) (t := t) (by rw [hW, hg]; exact heap_alloc_new X _)

/-! ### Bits of int -/
theorem ofInt_i64 (a : Nat) (ha : a < 9223372036854775808) : (BitVec.ofInt 64 (a : Int)).toNat = a := by
  rw [BitVec.ofInt_natCast, BitVec.toNat_ofNat]; exact Nat.mod_eq_of_lt (by omega)
theorem i64_and (a b : Nat) (ha : a < 9223372036854775808) (hb : b < 9223372036854775808) : bits .and .i64 (a : Int) (b : Int) = ((a &&& b : Nat) : Int) := by
  have hx : a &&& b < 2 ^ 63 := Nat.and_lt_two_pow _ (by omega)
  show IntKind.i64.wrap ((BitVec.ofInt 64 (a : Int) &&& BitVec.ofInt 64 (b : Int)).toNat : Int) = _
  rw [BitVec.toNat_and, ofInt_i64 a ha, ofInt_i64 b hb, IntKind.wrap_i64]
  omega
theorem i64_or (a b : Nat) (ha : a < 9223372036854775808) (hb : b < 9223372036854775808) : bits .or .i64 (a : Int) (b : Int) = ((a ||| b : Nat) : Int) := by
  have hx : a ||| b < 2 ^ 63 := Nat.or_lt_two_pow (by omega) (by omega)
  show IntKind.i64.wrap ((BitVec.ofInt 64 (a : Int) ||| BitVec.ofInt 64 (b : Int)).toNat : Int) = _
  rw [BitVec.toNat_or, ofInt_i64 a ha, ofInt_i64 b hb, IntKind.wrap_i64]
  omega
/-- x and (2^k - 1) is x modulo 2^k. -/
theorem i64_mask (k : Nat) (hk : k < 63) (x m : Int) (h0 : 0 ≤ x) (h1 : x < 9223372036854775808) (hm : m = ((2 ^ k - 1 : Nat) : Int)) : bits .and .i64 x m = x % ((2 ^ k : Nat) : Int) := by
  obtain ⟨n, rfl⟩ := Int.eq_ofNat_of_zero_le h0
  have hp : 2 ^ k < 2 ^ 63 := Nat.pow_lt_pow_right (by omega) hk
  rw [hm, i64_and n (2 ^ k - 1) (by omega) (by omega), Nat.and_two_pow_sub_one_eq_mod]
  omega

/-! ### Arguments -/
theorem plain_of_cell {w : World} {a : Addr} {v : Value} (h : w.cell? a = some v) : a = ⟨a.block, a.off, none⟩ := by
  obtain ⟨b, o, sp⟩ := a
  cases sp with
  | none => rfl
  | some s =>
    unfold World.cell? at h
    split at h <;> simp at h
theorem add_plain (b off n : Nat) : (⟨b, off, none⟩ : Addr).add n = ⟨b, off + n, none⟩ := by
  unfold Addr.add; split <;> simp_all
theorem add_zero_ (a : Addr) : a.add 0 = a := by simp [Addr.add]

/-- A slice that reads as a list of cells, sz a element; below block B. -/
def Rd (w : World) (B sz : Nat) (A : Option Addr) (n : Nat) (xs : List Value) : Prop :=
  xs.length = n * sz ∧ (0 < n → ∃ b off, A = some ⟨b, off, none⟩ ∧ b < B ∧ ∀ j, j < n * sz → w.cell? ⟨b, off + j, none⟩ = xs[j]?)
section
variable {w w' : World} {B B' sz n : Nat} {A : Option Addr} {xs : List Value}
theorem Rd.below (h : Rd w B sz A n xs) (hb : Below B w w') : Rd w' B sz A n xs :=
  ⟨h.1, fun hn => by
    obtain ⟨b, off, hA, hlt, hc⟩ := h.2 hn
    exact ⟨b, off, hA, hlt, fun j hj => (hb.cell (p := ⟨b, off + j, none⟩) hlt).trans (hc j hj)⟩⟩
theorem Rd.more (h : Rd w B sz A n xs) (hB : B ≤ B') : Rd w B' sz A n xs :=
  ⟨h.1, fun hn => by
    obtain ⟨b, off, hA, hlt, hc⟩ := h.2 hn
    exact ⟨b, off, hA, by omega, hc⟩⟩
theorem Rd.only {S : Nat → Prop} (h : Rd w B sz A n xs) (hb : Only S w w') (hB : B ≤ w.heap.size) (hs : ∀ k, k < B → ¬ S k) : Rd w' B sz A n xs :=
  h.below ⟨hb.os, hb.tape, hb.output, hb.size, fun k hk => hb.block k (by omega) (hs k hk)⟩
theorem Rd.take_ (h : Rd w B sz A n xs) {k : Nat} (hk : k ≤ n) : Rd w B sz A k (xs.take (k * sz)) := by
  have hle : k * sz ≤ n * sz := Nat.mul_le_mul_right _ hk
  refine ⟨by rw [List.length_take, h.1]; omega, fun h0 => ?_⟩
  obtain ⟨b, off, hA, hlt, hc⟩ := h.2 (by omega)
  refine ⟨b, off, hA, hlt, fun j hj => ?_⟩
  rw [hc j (by omega), List.getElem?_take, if_pos hj]
end
theorem Own.rd {w : World} {e : TypeId} {sz n cap : Nat} {A : Option Addr} {xs : List Value} (h : Own w e sz (.slice A n cap) n xs) : Rd w w.heap.size sz A n xs := by
  refine ⟨h.1, fun hn => ?_⟩
  obtain ⟨g, off, c, hv, _, _, hlt, hc, _⟩ := h.form hn
  injection hv with hA
  exact ⟨g, off, hA, hlt, hc⟩

section
open Go.ChangeShapes Go.WideShapes Go.ChangeAt Go.Deep
variable {H : Type} {enc : TypeId × Value → H} {P : Program} {w : World} {base : Nat} {spare : Nat → Bool} {held : Bool}
/-- A slice of structs of one-cell fields: for each element and field, its cell and its reading. -/
theorem slice_fields {t e : TypeId} {fs : Array Field} {fuel : Nat} {cs : List Value} {x : DataW H × List MemPlace} (ht : P.underlying t = some (.slice e)) (he : P.underlying e = some (.struct fs))
    (hone : oneCellFields P fs = true) (hC : P.cellsOf e = fs.size) (h : DataW.trod enc P w base spare held fuel t cs = some x) :
    cs = [.slice none 0 0] ∨
    ∃ (a : Addr) (len cap : Nat), cs = [.slice (some a) len cap] ∧ len ≤ cap ∧ cap ≤ maxLen ∧
      ∀ i, i < len → ∃ (n : Nat), ∀ (j : Nat) (f : Field), fs[j]? = some f → ∃ (v : Value) (y : DataW H × List MemPlace), w.cell? (a.add (i * fs.size + j)) = some v ∧ DataW.trod enc P w base spare held n f.type [v] = some y := by
  rcases open_slice ht h with h0 | ⟨a, len, cap, m, n, D, Pl, hcs, hb, hl, hm, hmm, hx, hi⟩
  · exact .inl h0.1
  · refine .inr ⟨a, len, cap, hcs, hl, hm, fun i hlen => ?_⟩
    have him : i < m := by rw [hmm]; split <;> omega
    obtain ⟨cs', hc, ht'⟩ := hi i him
    rw [hC] at hc
    obtain ⟨ys, n', hn', hy, hlen, hyl, hf⟩ := DataW.trod_struct he ht'
    obtain ⟨_, hcl, hat⟩ := World.cells?_some hc
    refine ⟨n', fun j f hj => ?_⟩
    obtain ⟨ho, hk⟩ := hone_of hone j f hj
    have hjl : j < fs.size := (Array.getElem?_eq_some_iff.1 hj).1
    have hcell := hat j hjl
    have hv : cs'[j]? = some (cs'[j]'(by omega)) := List.getElem?_eq_getElem (by omega)
    have h1 := hf j f hj
    rw [ho, hk] at h1
    have hone' : (cs'.drop j).take 1 = [cs'[j]'(by omega)] := by
      rw [List.drop_eq_getElem_cons (by omega)]
      rfl
    rw [hone'] at h1
    have hys : ys[j]? = some (ys[j]'(by omega)) := List.getElem?_eq_getElem (by omega)
    refine ⟨_, _, ?_, h1.trans hys⟩
    rw [← Go.Deep.add_add, hcell, hv]

/-- A slice of integers that came in. -/
theorem open_intslice {t e : TypeId} {k : IntKind} {fuel : Nat} {A : Option Addr} {len cap : Nat} {x : DataW H × List MemPlace} (ht : P.underlying t = some (.slice e)) (he : P.underlying e = some (.int k)) (hC : P.cellsOf e = 1)
    (h : DataW.trod enc P w base spare held fuel t [.slice A len cap] = some x) :
    ∃ zs : List Int, zs.length = len ∧ len ≤ cap ∧ cap ≤ maxLen ∧ Rd w w.heap.size 1 A len (zs.map (Value.int k)) ∧ ∀ z ∈ zs, (Lit.int k z).wf = true := by
  rcases open_ints ht he hC h with ⟨hcs, hx⟩ | ⟨a, l, c, zs, hcs, _, hl, hm, hz, hx, hcell, hwz⟩
  · simp at hcs
    obtain ⟨rfl, rfl, rfl⟩ := hcs
    exact ⟨[], rfl, Nat.le_refl _, by simp [maxLen], ⟨rfl, fun h0 => absurd h0 (by omega)⟩, by simp⟩
  · simp at hcs
    obtain ⟨rfl, rfl, rfl⟩ := hcs
    have hlz : len ≤ zs.length := by rw [hz]; split <;> omega
    refine ⟨zs.take len, by simp; omega, hl, hm, ⟨by simp; omega, fun h0 => ?_⟩, fun z hzm => hwz z (List.mem_of_mem_take hzm)⟩
    have h00 := hcell 0 (by omega)
    rw [add_zero_] at h00
    have hp := plain_of_cell h00
    have hb := World.block_lt_of_cell? w _ h00
    refine ⟨a.block, a.off, by rw [← hp], hb, fun j hj => ?_⟩
    have hj' : j < zs.length := by omega
    have := hcell j hj'
    rw [hp, add_plain] at this
    rw [this, List.getElem?_map, List.getElem?_take, if_pos (by omega), List.getElem?_eq_getElem hj']
    simp [hj']
end
end Go.Rb
namespace Go.Rb
open Go.RowKit

def dstOf (l : List Oper) (i : Nat) : Option Tmp := (l[i]?).bind (·.dst)
/-- Does the operation wait for number j? -/
def waitsFor (o : Oper) (j : Nat) : Bool := o.after.any fun e => Region.binds .any e && e.on == j
/-- Slot t is not written by the region. -/
def unwritten (l : List Oper) (t : Nat) : Bool := l.all fun o => o.dst != some t
/-- Each operation waits for earlier ones alone; no two write one slot; each slot lies in the frame. -/
def lexOk (l : List Oper) (n : Nat) : Bool :=
  ((List.range l.length).all fun i => match l[i]? with | some o => o.after.all (fun e => !Region.binds .any e || decide (e.on < i)) && (match o.dst with | some d => decide (d < n) | none => true) | none => true) &&
  (List.range l.length).all fun i => (List.range l.length).all fun j => i == j || (match dstOf l i, dstOf l j with | some d, some d' => d != d' | _, _ => true)

def setAll (vs : Nat → Value) : Nat → List Oper → Array Value → Array Value
  | _, [], t => t
  | i, o :: rest, t => setAll vs (i + 1) rest (match o.dst with | some d => t.setIfInBounds d (vs i) | none => t)

section
variable (P : Program) (l : List Oper) (Q : Exit → Act → World → Prop) (R : World → World → Prop) (F : Nat → Value → World → Prop) (a0 : Act) (w0 : World)

/-- One operation: from whatever state it may meet. -/
def RGStep (i : Nat) (o : Oper) : Prop :=
  ∀ a W, R w0 W → (∀ t v, unwritten l t = true → a0.tmps[t]? = some v → a.tmps[t]? = some v ∧ a.tmps.getD t undef = v) →
    (∀ j d, waitsFor o j = true → dstOf l j = some d → ∃ v, a.tmps[d]? = some v ∧ a.tmps.getD d undef = v ∧ F j v W) →
    ∀ K : Act → World → Prop, (∀ v W', R W W' → F i v W' → K (a.put o.dst v) W') →
      if Region.wanted o (yielded l.toArray a.tmps) = true then o.wp P a W K Q else K (a.put o.dst undef) W
def RGSteps : Nat → List Oper → Prop
  | _, [] => True
  | i, o :: rest => RGStep P l Q R F a0 w0 i o ∧ RGSteps (i + 1) rest
end

section
variable {P : Program} {l : List Oper} {Q : Exit → Act → World → Prop} {R : World → World → Prop} {F : Nat → Value → World → Prop} {a0 : Act} {w0 : World}

theorem RGSteps.get {k : Nat} {m : List Oper} (h : RGSteps P l Q R F a0 w0 k m) {i : Nat} {o : Oper} (hi : m[i]? = some o) : RGStep P l Q R F a0 w0 (k + i) o := by
  induction m generalizing k i with
  | nil => simp at hi
  | cons x m ih =>
    cases i with
    | zero => simp at hi; subst hi; exact h.1
    | succ i =>
      have := ih h.2 (by simpa using hi)
      rwa [show k + 1 + i = k + (i + 1) by omega] at this

theorem lexOk_edge {n : Nat} (h : lexOk l n = true) {i : Nat} {o : Oper} (hi : l[i]? = some o) {e : Edge} (he : e ∈ o.after) (hb : Region.binds .any e = true) : e.on < i := by
  have hil : i < l.length := (List.getElem?_eq_some_iff.1 hi).1
  simp only [lexOk, Bool.and_eq_true, List.all_eq_true, List.mem_range] at h
  have h1 := h.1 i hil
  rw [hi] at h1
  simp only [Bool.and_eq_true, Array.all_eq_true_iff_forall_mem] at h1
  have := h1.1 e he
  rw [hb] at this
  simpa using this
theorem lexOk_dst {n : Nat} (h : lexOk l n = true) {i : Nat} {d : Nat} (hi : dstOf l i = some d) : d < n := by
  have ⟨o, ho, hd⟩ : ∃ o, l[i]? = some o ∧ o.dst = some d := by
    unfold dstOf at hi
    cases hl : l[i]? with
    | none => rw [hl] at hi; simp at hi
    | some o => rw [hl] at hi; exact ⟨o, rfl, by simpa using hi⟩
  have hil : i < l.length := (List.getElem?_eq_some_iff.1 ho).1
  simp only [lexOk, Bool.and_eq_true, List.all_eq_true, List.mem_range] at h
  have h1 := h.1 i hil
  rw [ho] at h1
  simp only [Bool.and_eq_true, hd] at h1
  simpa using h1.2
theorem lexOk_apart {n : Nat} (h : lexOk l n = true) {i j d : Nat} (hi : dstOf l i = some d) (hj : dstOf l j = some d) : i = j := by
  have lt : ∀ k e, dstOf l k = some e → k < l.length := by
    intro k e hk
    unfold dstOf at hk
    rcases Nat.lt_or_ge k l.length with h | h
    · exact h
    · rw [List.getElem?_eq_none h] at hk; simp at hk
  simp only [lexOk, Bool.and_eq_true, List.all_eq_true, List.mem_range] at h
  have := h.2 i (lt i d hi) j (lt j d hj)
  rw [hi, hj] at this
  simpa using this

/-- What holds while the region runs. -/
structure RGInv (l : List Oper) (R : World → World → Prop) (F : Nat → Value → World → Prop) (a0 : Act) (w0 : World) (listed : Array Bool) (a : Act) (W : World) : Prop where
  size : listed.size = l.length
  defers : a.defers = a0.defers
  tsize : a.tmps.size = a0.tmps.size
  rel : R w0 W
  old : ∀ t, (∀ i, listed[i]? = some true → dstOf l i ≠ some t) → a.tmps[t]? = a0.tmps[t]?
  done : ∀ i, listed[i]? = some true → ∃ v, (∀ d, dstOf l i = some d → a.tmps[d]? = some v) ∧ F i v W

theorem rg_any (htrans : ∀ W W' W'', R W W' → R W' W'' → R W W'') (hstab : ∀ i v W W', F i v W → R W W' → F i v W') (hlex : lexOk l a0.tmps.size = true)
    (steps : RGSteps P l Q R F a0 w0 0 l)
    (fin : ∀ a W, RGInv l R F a0 w0 (Array.replicate l.length true) a W → Q .normal a W) :
    ∀ (fuel : Nat) (listed : Array Bool) (a : Act) (W : World), (listed.toList.filter (· == false)).length ≤ fuel → RGInv l R F a0 w0 listed a W → wpAny P .any l.toArray Q fuel listed a W := by
  -- nothing ready: all are listed
  have full : ∀ (listed : Array Bool) (a : Act) (W : World), RGInv l R F a0 w0 listed a W → Region.ready .any l.toArray listed = [] → Q .normal a W := by
    intro listed a W hI hr
    have hall : ∀ i, i < l.length → listed[i]? = some true := by
      intro i
      induction i using Nat.strongRecOn with
      | _ i ih =>
        intro hi
        have hsz : i < listed.size := by rw [hI.size]; exact hi
        cases hb : listed[i] with
        | true => rw [Array.getElem?_eq_getElem hsz, hb]
        | false =>
          exfalso
          have hmem : i ∈ Region.ready .any l.toArray listed := by
            unfold Region.ready
            rw [List.mem_filter]
            refine ⟨by simpa using hi, ?_⟩
            have hgd : listed.getD i true = false := by simp [Array.getD, hsz, hb]
            simp only [hgd, Bool.not_false, Bool.true_and]
            have hli : l.toArray[i]? = some l[i] := by simp [hi]
            rw [hli]
            simp only [Option.map_some, Option.getD_some, Array.all_eq_true_iff_forall_mem]
            intro e he
            cases hbe : Region.binds .any e with
            | false => rfl
            | true =>
              have hlt := lexOk_edge hlex (List.getElem?_eq_getElem hi) he hbe
              have := ih e.on hlt (by omega)
              simp [Array.getD_eq_getD_getElem?, this]
          rw [hr] at hmem
          cases hmem
    have hrep : listed = Array.replicate l.length true := by
      apply Array.ext
      · simp [hI.size]
      · intro i h1 h2
        have := hall i (by rw [← hI.size]; exact h1)
        rw [Array.getElem?_eq_getElem h1] at this
        simpa using this
    subst hrep
    exact fin a W hI
  intro fuel
  induction fuel with
  | zero =>
    intro listed a W hf hI
    have hr : Region.ready .any l.toArray listed = [] := by
      rw [List.eq_nil_iff_forall_not_mem]
      intro i hi
      unfold Region.ready at hi
      rw [List.mem_filter] at hi
      have h1 : listed.getD i true = false := by
        have := hi.2
        simp only [Bool.and_eq_true, Bool.not_eq_true'] at this
        exact this.1
      have hsz : i < listed.size := by
        rcases Nat.lt_or_ge i listed.size with h | h
        · exact h
        · simp [Array.getD, Nat.not_lt.2 h] at h1
      have hx : listed[i] = false := by simpa [Array.getD, hsz] using h1
      have : false ∈ listed.toList.filter (· == false) := by
        rw [List.mem_filter]
        exact ⟨by rw [← hx]; simp, rfl⟩
      have hlen := List.length_pos_of_mem this
      omega
    exact ⟨hr, full listed a W hI hr⟩
  | succ fuel ih =>
    intro listed a W hf hI
    refine ⟨full listed a W hI, fun i hi => ?_⟩
    unfold Region.ready at hi
    rw [List.mem_filter] at hi
    obtain ⟨hir, hi2⟩ := hi
    have hil : i < l.length := by simpa using hir
    have hli : l.toArray[i]? = some l[i] := by simp [hil]
    rw [hli] at hi2
    simp only [Bool.and_eq_true, Bool.not_eq_true', Option.map_some, Option.getD_some, Array.all_eq_true_iff_forall_mem] at hi2
    obtain ⟨hnl, hdeps⟩ := hi2
    have hsz : i < listed.size := by rw [hI.size]; exact hil
    have hx : listed[i] = false := by simpa [Array.getD, hsz] using hnl
    have hst := steps.get (i := i) (List.getElem?_eq_getElem hil)
    rw [Nat.zero_add] at hst
    have hfacts : ∀ j d, waitsFor l[i] j = true → dstOf l j = some d → ∃ v, a.tmps[d]? = some v ∧ a.tmps.getD d undef = v ∧ F j v W := by
      intro j d hw hd
      unfold waitsFor at hw
      rw [← Array.any_toList, List.any_eq_true] at hw
      obtain ⟨e, he, hbe⟩ := hw
      have he := Array.mem_toList_iff.1 he
      simp only [Bool.and_eq_true, beq_iff_eq] at hbe
      have h1 := hdeps e he
      rw [hbe.1, hbe.2] at h1
      have hj : listed[j]? = some true := by
        have h2 : listed.getD j false = true := by simpa using h1
        rw [Array.getD_eq_getD_getElem?] at h2
        cases hlj : listed[j]? with
        | none => rw [hlj] at h2; simp at h2
        | some b => rw [hlj] at h2; simpa using h2
      obtain ⟨v, hv, hF⟩ := hI.done j hj
      exact ⟨v, hv d hd, by rw [Array.getD_eq_getD_getElem?, hv d hd]; rfl, hF⟩
    have hkeep : ∀ t v, unwritten l t = true → a0.tmps[t]? = some v → a.tmps[t]? = some v ∧ a.tmps.getD t undef = v := by
      intro t v ht h0
      suffices hs : a.tmps[t]? = some v by exact ⟨hs, by rw [Array.getD_eq_getD_getElem?, hs]; rfl⟩
      rw [← h0]
      refine hI.old t fun j _ hj => ?_
      unfold dstOf at hj
      cases hlj : l[j]? with
      | none => rw [hlj] at hj; simp at hj
      | some o =>
        rw [hlj] at hj
        have := List.all_eq_true.1 ht o (List.mem_of_getElem? hlj)
        have hj' : o.dst = some t := by simpa using hj
        rw [hj'] at this
        simp at this
    -- the state behind it
    have next : ∀ v W', R W W' → F i v W' → wpAny P .any l.toArray Q fuel (listed.setIfInBounds i true) (a.put l[i].dst v) W' := by
      intro v W' hR hF
      have hget : ∀ k, (listed.setIfInBounds i true)[k]? = some true → k = i ∨ listed[k]? = some true := by
        intro k hk
        rw [Array.getElem?_setIfInBounds] at hk
        by_cases hki : i = k
        · exact .inl hki.symm
        · rw [if_neg hki] at hk; exact .inr hk
      have hdi : dstOf l i = l[i].dst := by simp [dstOf, hil]
      have hput : ∀ t, l[i].dst ≠ some t → (a.put l[i].dst v).tmps[t]? = a.tmps[t]? := by
        intro t ht
        cases hd : l[i].dst with
        | none => rfl
        | some d =>
          have hne : d ≠ t := fun e => ht (by rw [hd, e])
          simp [Act.put, Array.getElem?_setIfInBounds_ne hne]
      refine ih _ _ _ ?_ ⟨by simpa using hI.size, ?_, ?_, htrans _ _ _ hI.rel hR, ?_, ?_⟩
      · have hcnt : ∀ (L : List Bool) (k : Nat), L[k]? = some false → ((L.set k true).filter (· == false)).length + 1 = (L.filter (· == false)).length := by
          intro L
          induction L with
          | nil => intro k hk; simp at hk
          | cons b L ihL =>
            intro k hk
            cases k with
            | zero => simp at hk; subst hk; simp
            | succ k =>
              have := ihL k (by simpa using hk)
              cases b <;> simp at this ⊢ <;> omega
        have h1 := hcnt listed.toList i (by rw [Array.getElem?_toList, Array.getElem?_eq_getElem hsz, hx])
        rw [Array.toList_setIfInBounds]
        omega
      · rw [← hI.defers]; cases l[i].dst <;> rfl
      · rw [← hI.tsize]; cases l[i].dst <;> simp [Act.put]
      · intro t ht
        have h1 : l[i].dst ≠ some t := by
          rw [← hdi]
          exact ht i (by rw [Array.getElem?_setIfInBounds, if_pos rfl, if_pos hsz])
        rw [hput t h1]
        refine hI.old t fun j hj => ht j ?_
        rw [Array.getElem?_setIfInBounds]
        by_cases hij : i = j
        · rw [if_pos hij, if_pos hsz]
        · rw [if_neg hij]; exact hj
      · intro k hk
        by_cases hki : k = i
        · subst hki
          refine ⟨v, fun d hd => ?_, hF⟩
          have hdd : l[k].dst = some d := by rw [← hdi]; exact hd
          have hlt : d < a.tmps.size := by rw [hI.tsize]; exact lexOk_dst hlex hd
          rw [hdd]
          simp [Act.put, hlt]
        · rcases hget k hk with h | h
          · exact absurd h hki
          · obtain ⟨u, hu, hFu⟩ := hI.done k h
            refine ⟨u, fun d hd => ?_, hstab _ _ _ _ hFu hR⟩
            rw [hput d (fun e => hki (lexOk_apart hlex hd (by rw [hdi]; exact e)))]
            exact hu d hd
    unfold wpOp
    rw [hli]
    have h2 := hst a W hI.rel hkeep hfacts (wpAny P .any l.toArray Q fuel (listed.setIfInBounds i true)) next
    dsimp only
    split
    · rename_i hw; rw [if_pos hw] at h2; exact .inl h2
    · rename_i hw; rw [if_neg hw] at h2; exact h2

theorem setAll_size (vs : Nat → Value) (m : List Oper) (k : Nat) (t : Array Value) : (setAll vs k m t).size = t.size := by
  induction m generalizing k t with
  | nil => rfl
  | cons o m ih => simp only [setAll, ih]; cases o.dst <;> simp
theorem setAll_other (vs : Nat → Value) (m : List Oper) (k : Nat) (t : Array Value) (d : Nat) (h : ∀ o ∈ m, o.dst ≠ some d) : (setAll vs k m t)[d]? = t[d]? := by
  induction m generalizing k t with
  | nil => rfl
  | cons o m ih =>
    simp only [setAll]
    rw [ih _ _ (fun x hx => h x (by simp [hx]))]
    cases ho : o.dst with
    | none => rfl
    | some e =>
      have hne : e ≠ d := fun he => h o (by simp) (by rw [ho, he])
      simp [Array.getElem?_setIfInBounds_ne hne]
theorem setAll_at (vs : Nat → Value) (m : List Oper) (k : Nat) (t : Array Value) (i d : Nat) (hd : d < t.size) (h : dstOf m i = some d) (hu : ∀ j, dstOf m j = some d → j = i) : (setAll vs k m t)[d]? = some (vs (k + i)) := by
  induction m generalizing k t i with
  | nil => simp [dstOf] at h
  | cons o m ih =>
    simp only [setAll]
    cases i with
    | zero =>
      have ho : o.dst = some d := by simpa [dstOf] using h
      rw [setAll_other]
      · simp [ho, hd]
      · intro x hx hxd
        obtain ⟨j, hj⟩ := List.getElem?_of_mem hx
        have := hu (j + 1) (by simp [dstOf, hj, hxd])
        omega
    | succ i =>
      have := ih (k + 1) (match o.dst with | some d => t.setIfInBounds d (vs k) | none => t) i (by cases o.dst <;> simp [hd]) (by simpa [dstOf] using h)
        (fun j hj => by have := hu (j + 1) (by simpa [dstOf] using hj); omega)
      rw [this, show k + 1 + i = k + (i + 1) by omega]

/-- A REGION THAT DRAWS ITS ORDER. -/
theorem region_rg {id : Nat} {w : World} (hm : P.follows .mixedOrders = true) (R : World → World → Prop) (F : Nat → Value → World → Prop)
    (hrefl : ∀ W, R W W) (htrans : ∀ W W' W'', R W W' → R W' W'' → R W W'') (hstab : ∀ i v W W', F i v W → R W W' → F i v W') (hlex : lexOk l a0.tmps.size = true)
    (steps : RGSteps P l Q R F a0 w.drew 0 l)
    (fin : ∀ (vs : Nat → Value) W, R w.drew W → (∀ i, i < l.length → F i (vs i) W) → Q .normal { a0 with tmps := setAll vs 0 l a0.tmps } W) : (Code.region id l.toArray true).wp P Q a0 w := by
  refine wp_region_any hm ?_
  refine rg_any (R := R) (F := F) (a0 := a0) (w0 := w.drew) htrans hstab hlex steps ?_ _ _ _ _ ?_ ⟨by simp, rfl, rfl, hrefl _, fun _ _ => rfl, ?_⟩
  · intro a W hI
    have hch : ∀ i, ∃ v, i < l.length → (∀ d, dstOf l i = some d → a.tmps[d]? = some v) ∧ F i v W := by
      intro i
      by_cases hi : i < l.length
      · obtain ⟨v, hv⟩ := hI.done i (by simp [hi])
        exact ⟨v, fun _ => hv⟩
      · exact ⟨undef, fun h => absurd h hi⟩
    have hvs := fun i => (hch i).choose_spec
    have he : a = { a0 with tmps := setAll (fun i => (hch i).choose) 0 l a0.tmps } := by
      have ht : a.tmps = setAll (fun i => (hch i).choose) 0 l a0.tmps := by
        apply Array.ext_getElem?
        intro t
        by_cases hw : ∃ i, dstOf l i = some t
        · obtain ⟨i, hi⟩ := hw
          have hil : i < l.length := by
            rcases Nat.lt_or_ge i l.length with h | h
            · exact h
            · unfold dstOf at hi; rw [List.getElem?_eq_none h] at hi; simp at hi
          rw [setAll_at _ l 0 a0.tmps i t (lexOk_dst hlex hi) hi (fun j hj => lexOk_apart hlex hj hi), Nat.zero_add]
          exact (hvs i hil).1 t hi
        · rw [setAll_other]
          · exact hI.old t fun i _ hi => hw ⟨i, hi⟩
          · intro o ho hd
            obtain ⟨j, hj⟩ := List.getElem?_of_mem ho
            exact hw ⟨j, by simp [dstOf, hj, hd]⟩
      obtain ⟨tm, df⟩ := a
      have hd := hI.defers
      simp only at ht hd
      show Act.mk tm df = Act.mk _ _
      rw [← ht, hd]
    rw [he]
    exact fin _ W hI.rel fun i hi => (hvs i hi).2
  · simp
  · intro i hi
    rw [Array.getElem?_replicate] at hi
    split at hi <;> simp at hi
end

/-- What is said of the value that an operation yields; it stays true along R. -/
structure Row (R : World → World → Prop) where
  p : Value → World → Prop
  h : ∀ v W W', p v W → R W W' → p v W'
def Row.val {R : World → World → Prop} (x : Value) : Row R := ⟨fun v _ => v = x, fun _ _ _ h _ => h⟩
def Row.any {R : World → World → Prop} : Row R := ⟨fun _ _ => True, fun _ _ _ h _ => h⟩
def Row.is {R : World → World → Prop} (q : Value → Prop) : Row R := ⟨fun v _ => q v, fun _ _ _ h _ => h⟩
def rowAt {R : World → World → Prop} (rows : List (Row R)) (i : Nat) : Value → World → Prop := (rows.getD i .any).p

/-- The rule with its rows. -/
theorem region_rows {P : Program} {l : List Oper} {Q : Exit → Act → World → Prop} {a0 : Act} {id : Nat} {w : World} (hm : P.follows .mixedOrders = true) (R : World → World → Prop) (rows : List (Row R))
    (hrefl : ∀ W, R W W) (htrans : ∀ W W' W'', R W W' → R W' W'' → R W W'') (hlex : lexOk l a0.tmps.size = true)
    (steps : RGSteps P l Q R (rowAt rows) a0 w.drew 0 l)
    (fin : ∀ (vs : Nat → Value) W, R w.drew W → (∀ i, i < l.length → rowAt rows i (vs i) W) → Q .normal { a0 with tmps := setAll vs 0 l a0.tmps } W) : (Code.region id l.toArray true).wp P Q a0 w :=
  region_rg hm R (rowAt rows) hrefl htrans (fun i v W W' => (rows.getD i .any).h v W W') hlex steps fin

/-! ### append(s, x...) where x came from anywhere, nil and empty too -/
section
variable {P : Program} (w : World)
theorem run_append_zero (t ty e : TypeId) (i : TypeInfo) (sz : Nat) (ht : P.underlying t = some (.slice e)) (hi : P.info? e = some i)
    (v : Value) (n : Nat) (xs : List Value) (hown : Own w e sz v n xs) (A : Option Addr) (c : Nat) : (Builtin.append_ #[t, t] ty #[v, .slice A 0 c]).run P w = .ok v w := by
  have hf : (Builtin.firstCells i.size 0 (.slice A 0 c)).run P w = .ok #[] w := by
    cases A with
    | none => simp [Builtin.firstCells]
    | some a =>
      have := run_firstCells_some (P := P) w i.size 0 a 0 c [] (by simp) (fun j v h => by simp at h)
      simpa using this
  rcases hown.2 with ⟨rfl, rfl⟩ | ⟨g, off, cap, cur, rfl, _, hnc, _⟩
  · simp [Builtin.append_, run_underlying ht, sizeOf, typeInfo, hi, Builtin.lenOf, hf]
  · simp [Builtin.append_, run_underlying ht, sizeOf, typeInfo, hi, Builtin.lenOf, hf, hnc, storeCells]
theorem run_append_rd (t ty : TypeId) (e : TypeId) (i : TypeInfo) (z : Value) (sz bytes : Nat) (ht : P.underlying t = some (.slice e)) (hi : P.info? e = some i) (hz : i.zero = some z)
    (hsize : i.size = sz) (hby : i.bytes = bytes) (hzs : z.cells.size = sz) (hsz : 0 < sz)
    (v : Value) (n : Nat) (xs : List Value) (hown : Own w e sz v n xs)
    (B : Nat) (A : Option Addr) (m c : Nat) (news : List Value) (hr : Rd w B sz A m news) (h1 : ∀ u ∈ news, u.oneCell' = true)
    (h63 : n + m ≤ maxLen) (hbytes : (n + m) * bytes ≤ 140737488355328) :
    ∃ v' w', (Builtin.append_ #[t, t] ty #[v, .slice A m c]).run P w = .ok v' w' ∧ Own w' e sz v' (n + m) (xs ++ news) ∧ w.grownBy w' v.ownBlock ∧ (v'.ownBlock = v.ownBlock ∨ v'.ownBlock = some w.heap.size) := by
  rcases Nat.eq_zero_or_pos m with h0 | h0
  · subst h0
    obtain rfl : news = [] := List.eq_nil_of_length_eq_zero (by simpa using hr.1)
    exact ⟨v, w, run_append_zero w t ty e i sz ht hi v n xs hown A c, by simpa using hown, World.grownBy.refl w _, .inl rfl⟩
  · obtain ⟨b, off, rfl, _, hc⟩ := hr.2 h0
    obtain ⟨g, o, cap, w', hrun, h2, h3, h4⟩ := run_append_mine (P := P) w t ty e i z sz bytes ht hi hz hsize hby hzs hsz v n xs hown ⟨b, off, none⟩ m c news hr.1
      (fun j u hu => by
        have hj : j < m * sz := by have := (List.getElem?_eq_some_iff.1 hu).1; rw [hr.1] at this; exact this
        rw [Addr.add_lit, hc j hj, hu]) h1 h0 h63 hbytes
    refine ⟨_, w', hrun, h2, h3, ?_⟩
    rcases h4 with h4 | h4
    · exact .inl (by rw [h4]; rfl)
    · exact .inr (by rw [h4]; rfl)
theorem wp_append_rd {o : Oper} {a : Act} {K : Act → World → Prop} {Q : Exit → Act → World → Prop} (s x : Operand) (t : TypeId)
    (ho : o.op = .call { callee := .builtin .append, args := #[s, x], argTypes := #[t, t] })
    (e : TypeId) (i : TypeInfo) (z : Value) (sz bytes : Nat) (ht : P.underlying t = some (.slice e)) (hi : P.info? e = some i) (hz : i.zero = some z)
    (hsize : i.size = sz) (hby : i.bytes = bytes) (hzs : z.cells.size = sz) (hsz : 0 < sz)
    (v : Value) (n : Nat) (xs : List Value) (hs : a.eval s = v) (hown : Own w e sz v n xs)
    (B : Nat) (A : Option Addr) (m c : Nat) (news : List Value) (hx : a.eval x = .slice A m c) (hr : Rd w B sz A m news) (h1 : ∀ u ∈ news, u.oneCell' = true)
    (h63 : n + m ≤ maxLen) (hbytes : (n + m) * bytes ≤ 140737488355328) (H : Nat) (hH : w.heap.size = H)
    (h : ∀ v' w', Own w' e sz v' (n + m) (xs ++ news) → w.grownBy w' v.ownBlock → (v'.ownBlock = v.ownBlock ∨ v'.ownBlock = some H) → K (a.put o.dst v') w') : o.wp P a w K Q := by
  subst hH
  obtain ⟨v', w', hrun, h2, h3, h4⟩ := run_append_rd (P := P) w t o.type e i z sz bytes ht hi hz hsize hby hzs hsz v n xs hown B A m c news hr h1 h63 hbytes
  unfold Oper.wp execOp
  simp only [ho, resolve, invoke, builtin, Sem.run_bind, Sem.run_pure, Result.andThen_ok, List.map_toArray, List.map_cons, List.map_nil, hs, hx, hrun]
  exact h v' w' h2 h3 h4
theorem wpList_append_rd {ops : Array Oper} {rest : List Oper} {o : Oper} {a : Act} {Q : Exit → Act → World → Prop} (hgd : o.guard = none) (s x : Operand) (t : TypeId)
    (ho : o.op = .call { callee := .builtin .append, args := #[s, x], argTypes := #[t, t] })
    (e : TypeId) (i : TypeInfo) (z : Value) (sz bytes : Nat) (ht : P.underlying t = some (.slice e)) (hi : P.info? e = some i) (hz : i.zero = some z)
    (hsize : i.size = sz) (hby : i.bytes = bytes) (hzs : z.cells.size = sz) (hsz : 0 < sz)
    (v : Value) (n : Nat) (xs : List Value) (hs : a.eval s = v) (hown : Own w e sz v n xs)
    (B : Nat) (A : Option Addr) (m c : Nat) (news : List Value) (hx : a.eval x = .slice A m c) (hr : Rd w B sz A m news) (h1 : ∀ u ∈ news, u.oneCell' = true)
    (h63 : n + m ≤ maxLen) (hbytes : (n + m) * bytes ≤ 140737488355328) (H : Nat) (hH : w.heap.size = H)
    (h : ∀ v' w', Own w' e sz v' (n + m) (xs ++ news) → w.grownBy w' v.ownBlock → (v'.ownBlock = v.ownBlock ∨ v'.ownBlock = some H) → wpList P ops Q rest (a.put o.dst v') w') : wpList P ops Q (o :: rest) a w :=
  wpList_plain hgd fun _ hK => wp_append_rd w s x t ho e i z sz bytes ht hi hz hsize hby hzs hsz v n xs hs hown B A m c news hx hr h1 h63 hbytes H hH fun v' w' h2 h3 h4 => hK _ _ (h v' w' h2 h3 h4)
end
end Go.Rb
namespace Go.Proofs.Ytjfkppbfckgckaa
open Go.RowKit Go.Rb

theorem info3 : (Try.prog.info? 3).map (fun i => (i.zero, i.size, i.bytes)) = some (some (.int .i64 0), 1, 8) := by kernel_rfl
def iV (z : Int) : Value := .int .i64 z

def NewI (w w' : World) (v : Value) (zs : List Int) : Prop :=
  Own w' 3 1 v zs.length (zs.map iV) ∧ Below w.heap.size w w' ∧ ∀ k, v.ownBlock = some k → w.heap.size ≤ k
def RetNewI (w : World) (zs : List Int) (e : Ending) (w' : World) : Prop := ∃ v, e = .returned v ∧ NewI w w' v zs

theorem newI_1 (w : World) (z : Int) : NewI w (w.alloc (.cells #[.int .i64 z] 3)) (.slice (some ⟨w.heap.size, 0, none⟩) 1 1) [z] :=
  ⟨by have := Own.lit w 3 1 1 #[.int .i64 z] rfl (by decide); simpa [iV] using this, below_al (Below.refl _ _) _, by simp [Value.ownBlock]⟩
theorem newI_2 (w : World) (z y : Int) : NewI w (w.alloc (.cells #[.int .i64 z, .int .i64 y] 3)) (.slice (some ⟨w.heap.size, 0, none⟩) 2 2) [z, y] :=
  ⟨by have := Own.lit w 3 1 2 #[.int .i64 z, .int .i64 y] rfl (by decide); simpa [iV] using this, below_al (Below.refl _ _) _, by simp [Value.ownBlock]⟩

theorem Own.rdI {w : World} {e : TypeId} {n : Nat} {v : Value} {xs : List Value} (h : Own w e 1 v n xs) : ∃ A cap, v = .slice A n cap ∧ Rd w w.heap.size 1 A n xs ∧ n ≤ cap := by
  obtain ⟨A, cap, rfl, hc, _⟩ := h.len_
  exact ⟨A, cap, rfl, h.rd, hc⟩
end Go.Proofs.Ytjfkppbfckgckaa
namespace Go.Proofs.Ytjfkppbfckgckaa
structure Ins where
  op : Int
  set : List (Int × Int)
  x : Int
  y : Int
/-- Is a number in a set? -/
def hasS (s : List (Int × Int)) (r : Int) : Bool := s.any fun q => decide (q.1 ≤ r) && decide (r ≤ q.2) && decide (0 ≤ r) && decide (r ≤ 1114111)
/-- What follows at once, at the same place: of m code points, at the k-th. -/
def eps (p : List Ins) (m k i : Nat) : List Nat :=
  match p[i]? with
  | none => []
  | some t => if t.op = 2 then [t.x.toNat, t.y.toNat] else if t.op = 3 then (if k = 0 then [t.x.toNat] else []) else if t.op = 4 then (if k = m then [t.x.toNat] else []) else []
/-- What follows at the next place. -/
def nxt (p : List Ins) (rs : List Int) (k i : Nat) : List Nat :=
  match p[i]? with
  | none => []
  | some t => if t.op = 1 then (match rs[k]? with | some r => if hasS t.set r then [t.x.toNat] else [] | none => []) else []
inductive Reach (p : List Ins) (rs : List Int) (k0 : Nat) : Nat → Nat → Prop
  | start : Reach p rs k0 0 k0
  | eps (i j k : Nat) (h : Reach p rs k0 i k) (hj : j ∈ eps p rs.length k i) : Reach p rs k0 j k
  | nxt (i j k : Nat) (h : Reach p rs k0 i k) (hj : j ∈ nxt p rs k i) : Reach p rs k0 j (k + 1)
/-- Is the k-th place an end? -/
def Acc (p : List Ins) (rs : List Int) (k0 k : Nat) : Prop := ∃ i t, Reach p rs k0 i k ∧ p[i]? = some t ∧ t.op = 0
/-- A family of sets that is closed and holds the start holds all that is reached. -/
theorem reach_sub {p : List Ins} {rs : List Int} {k0 : Nat} {M : Nat → Nat → Prop} (h0 : M k0 0) (he : ∀ k i j, M k i → j ∈ eps p rs.length k i → M k j) (hn : ∀ k i j, M k i → j ∈ nxt p rs k i → M (k + 1) j) {i k : Nat} (h : Reach p rs k0 i k) : M k i := by
  induction h with
  | start => exact h0
  | eps i j k _ hj ih => exact he k i j ih hj
  | nxt i j k _ hj ih => exact hn k i j ih hj
theorem reach_ge {p : List Ins} {rs : List Int} {k0 i k : Nat} (h : Reach p rs k0 i k) : k0 ≤ k := by
  induction h with
  | start => exact Nat.le_refl _
  | eps i j k _ hj ih => exact ih
  | nxt i j k _ hj ih => omega
theorem nxt_lt {p : List Ins} {rs : List Int} {i j k : Nat} (hj : j ∈ nxt p rs k i) : k < rs.length := by
  unfold nxt at hj
  split at hj
  · simp at hj
  · split at hj
    · split at hj
      · exact (List.getElem?_eq_some_iff.1 (by assumption)).1
      · simp at hj
    · simp at hj
theorem reach_le {p : List Ins} {rs : List Int} {k0 i k : Nat} (hk0 : k0 ≤ rs.length) (h : Reach p rs k0 i k) : k ≤ rs.length := by
  induction h with
  | start => exact hk0
  | eps i j k _ hj ih => exact ih
  | nxt i j k _ hj ih => exact nxt_lt hj
/-- The last end; none: there is none. -/
def IsLast (p : List Ins) (rs : List Int) (k0 : Nat) : Option Nat → Prop
  | none => ∀ k, ¬ Acc p rs k0 k
  | some k => Acc p rs k0 k ∧ ∀ k', k < k' → ¬ Acc p rs k0 k'
theorem IsLast.fn {p : List Ins} {rs : List Int} {k0 : Nat} {a b : Option Nat} (ha : IsLast p rs k0 a) (hb : IsLast p rs k0 b) : a = b := by
  cases a with
  | none =>
    cases b with
    | none => rfl
    | some b => exact absurd hb.1 (ha b)
  | some a =>
    cases b with
    | none => exact absurd ha.1 (hb a)
    | some b =>
      have h1 : ¬ a < b := fun h => ha.2 b h hb.1
      have h2 : ¬ b < a := fun h => hb.2 a h ha.1
      have : a = b := by omega
      rw [this]
theorem IsLast.ge {p : List Ins} {rs : List Int} {k0 k : Nat} (h : IsLast p rs k0 (some k)) : k0 ≤ k := by
  obtain ⟨i, t, hr, _⟩ := h.1
  exact reach_ge hr
/-- Is it no split, no begin, no end? -/
def stays (p : List Ins) (j : Nat) : Prop := ∃ t, p[j]? = some t ∧ t.op ≠ 2 ∧ t.op ≠ 3 ∧ t.op ≠ 4
/-- A set that holds what follows at once. -/
def Closed (p : List Ins) (m k : Nat) (M : Nat → Prop) : Prop := ∀ a b, M a → b ∈ eps p m k a → M b
/-- What a put of i makes of a set and a list. -/
structure PutR (p : List Ins) (m k : Nat) (M : Nat → Prop) (L : List Nat) (i : Nat) (M' : Nat → Prop) (L' : List Nat) : Prop where
  sub : ∀ j, M j → M' j
  has : M' i
  clo : ∀ j, M' j → ¬ M j → ∀ b ∈ eps p m k j, M' b
  from_ : ∀ P : Nat → Prop, P i → (∀ a b, P a → b ∈ eps p m k a → P b) → ∀ j, M' j → M j ∨ P j
  lst : ∃ X, L' = L ++ X ∧ ∀ j, j ∈ X ↔ (M' j ∧ ¬ M j ∧ stays p j)
theorem PutR.old {p : List Ins} {m k : Nat} {M : Nat → Prop} {L : List Nat} {i : Nat} (h : M i) : PutR p m k M L i M L :=
  ⟨fun _ h => h, h, fun j h h' => absurd h h', fun P _ _ j h => .inl h, [], by simp, fun j => by simp; intro h h'; exact absurd h h'⟩
/-- A put of one that goes nowhere at once: it is put into the list. -/
theorem PutR.leaf {p : List Ins} {m k : Nat} {M : Nat → Prop} {L : List Nat} {i : Nat} (hn : ¬ M i) (hs : stays p i) : PutR p m k M L i (fun j => M j ∨ j = i) (L ++ [i]) := by
  obtain ⟨t, ht, h2, h3, h4⟩ := hs
  refine ⟨fun j h => .inl h, .inr rfl, ?_, fun P hP _ j h => h.elim .inl (fun e => .inr (e ▸ hP)), [i], rfl, fun j => ?_⟩
  · rintro j (h | rfl) hj b hb
    · exact absurd h hj
    · unfold eps at hb
      rw [ht] at hb
      simp [h2, h3, h4] at hb
  · constructor
    · intro h
      obtain rfl : j = i := by simpa using h
      exact ⟨.inr rfl, hn, t, ht, h2, h3, h4⟩
    · rintro ⟨h | rfl, h', -⟩
      · exact absurd h h'
      · simp
/-- A put of one that ends here. -/
theorem PutR.stop {p : List Ins} {m k : Nat} {M : Nat → Prop} {L : List Nat} {i : Nat} (hn : ¬ M i) (hs : ¬ stays p i) (he : eps p m k i = []) : PutR p m k M L i (fun j => M j ∨ j = i) L := by
  refine ⟨fun j h => .inl h, .inr rfl, ?_, fun P hP _ j h => h.elim .inl (fun e => .inr (e ▸ hP)), [], by simp, fun j => ?_⟩
  · rintro j (h | rfl) hj b hb
    · exact absurd h hj
    · rw [he] at hb; simp at hb
  · constructor
    · intro h; simp at h
    · rintro ⟨h | rfl, h', h2⟩
      · exact absurd h h'
      · exact absurd h2 hs
/-- One way on. -/
theorem PutR.one {p : List Ins} {m k : Nat} {M M' : Nat → Prop} {L L' : List Nat} {i x : Nat} (hn : ¬ M i) (hs : ¬ stays p i) (he : eps p m k i = [x]) (h : PutR p m k (fun j => M j ∨ j = i) L x M' L') : PutR p m k M L i M' L' := by
  have hi : M' i := h.sub i (.inr rfl)
  obtain ⟨X, hX, hx⟩ := h.lst
  refine ⟨fun j hj => h.sub j (.inl hj), hi, fun j hj hnj b hb => ?_, fun P hP hc j hj => ?_, X, hX, fun j => ?_⟩
  · by_cases hji : j = i
    · subst hji
      rw [he] at hb
      obtain rfl : b = x := by simpa using hb
      exact h.has
    · exact h.clo j hj (fun e => e.elim hnj hji) b hb
  · have hPx : P x := hc i x hP (by rw [he]; simp)
    rcases h.from_ P hPx hc j hj with (h1 | rfl) | h1
    · exact .inl h1
    · exact .inr hP
    · exact .inr h1
  · rw [hx]
    constructor
    · rintro ⟨h1, h2, h3⟩; exact ⟨h1, fun e => h2 (.inl e), h3⟩
    · rintro ⟨h1, h2, h3⟩; exact ⟨h1, fun e => e.elim h2 (fun e => hs (e ▸ h3)), h3⟩
/-- Two ways on. -/
theorem PutR.two {p : List Ins} {m k : Nat} {M M1 M' : Nat → Prop} {L L1 L' : List Nat} {i x y : Nat} (hn : ¬ M i) (hs : ¬ stays p i) (he : eps p m k i = [x, y]) (h1 : PutR p m k (fun j => M j ∨ j = i) L x M1 L1) (h2 : PutR p m k M1 L1 y M' L') : PutR p m k M L i M' L' := by
  have hi : M' i := h2.sub i (h1.sub i (.inr rfl))
  obtain ⟨X, hX, hx⟩ := h1.lst
  obtain ⟨Y, hY, hy⟩ := h2.lst
  refine ⟨fun j hj => h2.sub j (h1.sub j (.inl hj)), hi, fun j hj hnj b hb => ?_, fun P hP hc j hj => ?_, X ++ Y, by rw [hY, hX, List.append_assoc], fun j => ?_⟩
  · by_cases hji : j = i
    · subst hji
      rw [he] at hb
      rcases (by simpa using hb : b = x ∨ b = y) with rfl | rfl
      · exact h2.sub _ h1.has
      · exact h2.has
    · by_cases hj1 : M1 j
      · exact h2.sub _ (h1.clo j hj1 (fun e => e.elim hnj hji) b hb)
      · exact h2.clo j hj hj1 b hb
  · have hPx : P x := hc i x hP (by rw [he]; simp)
    have hPy : P y := hc i y hP (by rw [he]; simp)
    rcases h2.from_ P hPy hc j hj with h3 | h3
    · rcases h1.from_ P hPx hc j h3 with (h4 | rfl) | h4
      · exact .inl h4
      · exact .inr hP
      · exact .inr h4
    · exact .inr h3
  · rw [List.mem_append, hx, hy]
    constructor
    · rintro (⟨a, b, c⟩ | ⟨a, b, c⟩)
      · exact ⟨h2.sub j a, fun e => b (.inl e), c⟩
      · exact ⟨a, fun e => b (h1.sub j (.inl e)), c⟩
    · rintro ⟨a, b, c⟩
      by_cases hj1 : M1 j
      · exact .inl ⟨hj1, fun e => e.elim b (fun e => hs (e ▸ c)), c⟩
      · exact .inr ⟨a, hj1, c⟩
theorem PutR.closed {p : List Ins} {m k : Nat} {M M' : Nat → Prop} {L L' : List Nat} {i : Nat} (h : PutR p m k M L i M' L') (hc : Closed p m k M) : Closed p m k M' := by
  intro a b ha hb
  by_cases hM : M a
  · exact h.sub b (hc a b hM hb)
  · exact h.clo a ha hM b hb
/-- The list has what stays of the set. -/
def Lists (p : List Ins) (M : Nat → Prop) (L : List Nat) : Prop := ∀ j, j ∈ L ↔ (M j ∧ stays p j)
theorem PutR.lists {p : List Ins} {m k : Nat} {M M' : Nat → Prop} {L L' : List Nat} {i : Nat} (h : PutR p m k M L i M' L') (hl : Lists p M L) : Lists p M' L' := by
  obtain ⟨X, hX, hx⟩ := h.lst
  intro j
  rw [hX, List.mem_append, hl j, hx j]
  constructor
  · rintro (⟨a, b⟩ | ⟨a, b, c⟩)
    · exact ⟨h.sub j a, b⟩
    · exact ⟨a, c⟩
  · rintro ⟨a, b⟩
    by_cases hM : M j
    · exact .inl ⟨hM, b⟩
    · exact .inr ⟨a, hM, b⟩
/-! ### Levels -/
/-- The set is what is reached at the k-th place. -/
def Exact (p : List Ins) (rs : List Int) (k0 k : Nat) (M : Nat → Prop) : Prop := ∀ i, M i ↔ Reach p rs k0 i k
theorem exact_start {p : List Ins} {rs : List Int} {k0 : Nat} {M : Nat → Prop} {L : List Nat} (h : PutR p rs.length k0 (fun _ => False) [] 0 M L) : Exact p rs k0 k0 M := by
  intro i
  constructor
  · intro hi
    rcases h.from_ (fun j => Reach p rs k0 j k0) .start (fun a b ha hb => .eps a b k0 ha hb) i hi with h' | h'
    · exact absurd h' id
    · exact h'
  · intro hr
    have key : ∀ {i k}, Reach p rs k0 i k → k = k0 → M i := by
      intro i k hr
      induction hr with
      | start => intro _; exact h.has
      | eps i j k hr hj ih => intro e; subst e; exact h.clo i (ih rfl) id j hj
      | nxt i j k hr hj ih => intro e; have := reach_ge hr; omega
    exact key hr rfl
/-- The next level: closed, sound, and with all that the level ahead leads to. -/
theorem exact_next {p : List Ins} {rs : List Int} {k0 k : Nat} {M M' : Nat → Prop} (hk : k0 ≤ k) (hM : Exact p rs k0 k M) (hc : Closed p rs.length (k + 1) M') (hs : ∀ j, M' j → Reach p rs k0 j (k + 1)) (hn : ∀ i j, M i → j ∈ nxt p rs k i → M' j) : Exact p rs k0 (k + 1) M' := by
  intro i
  refine ⟨hs i, fun hr => ?_⟩
  have key : ∀ {i q}, Reach p rs k0 i q → q = k + 1 → M' i := by
    intro i q hr
    induction hr with
    | start => intro e; omega
    | eps i j q hr hj ih => intro e; subst e; exact hc i j (ih rfl) hj
    | nxt i j q hr' hj ih =>
      intro e
      obtain rfl : q = k := by omega
      exact hn i j ((hM i).2 hr') hj
  exact key hr rfl
theorem nxt_stays {p : List Ins} {rs : List Int} {k i j : Nat} (hj : j ∈ nxt p rs k i) : stays p i := by
  unfold nxt at hj
  split at hj
  · simp at hj
  · rename_i t ht
    split at hj
    · exact ⟨t, ht, by omega, by omega, by omega⟩
    · simp at hj
/-- Behind a level where nothing stays nothing is reached. -/
theorem none_behind {p : List Ins} {rs : List Int} {k0 k : Nat} {M : Nat → Prop} (hk : k0 ≤ k) (hM : Exact p rs k0 k M) (hl : Lists p M []) {i q : Nat} (hr : Reach p rs k0 i q) : q ≤ k := by
  induction hr with
  | start => exact hk
  | eps i j q hr hj ih => exact ih
  | nxt i j q hr' hj ih =>
    rcases Nat.lt_or_ge q k with h | h
    · omega
    · obtain rfl : q = k := by omega
      have := (hl i).2 ⟨(hM i).2 hr', nxt_stays hj⟩
      simp at this
/-- The last end ahead of a place. -/
def LastTo (p : List Ins) (rs : List Int) (k0 k : Nat) : Option Nat → Prop
  | none => ∀ q, q < k → ¬ Acc p rs k0 q
  | some e => e < k ∧ Acc p rs k0 e ∧ ∀ q, e < q → q < k → ¬ Acc p rs k0 q
theorem lastTo_start {p : List Ins} {rs : List Int} {k0 : Nat} : LastTo p rs k0 k0 none := fun q hq ⟨_, _, hr, _⟩ => by have := reach_ge hr; omega
theorem lastTo_acc {p : List Ins} {rs : List Int} {k0 k : Nat} {M : Nat → Prop} (hM : Exact p rs k0 k M) {i : Nat} {t : Ins} (hi : M i) (ht : p[i]? = some t) (h0 : t.op = 0) : LastTo p rs k0 (k + 1) (some k) :=
  ⟨by omega, ⟨i, t, (hM i).1 hi, ht, h0⟩, fun q h1 h2 => by omega⟩
theorem lastTo_no {p : List Ins} {rs : List Int} {k0 k : Nat} {M : Nat → Prop} {r : Option Nat} (hM : Exact p rs k0 k M) (hn : ∀ i t, M i → p[i]? = some t → t.op ≠ 0) (h : LastTo p rs k0 k r) : LastTo p rs k0 (k + 1) r := by
  have hk : ¬ Acc p rs k0 k := fun ⟨i, t, hr, ht, h0⟩ => hn i t ((hM i).2 hr) ht h0
  cases r with
  | none =>
    intro q hq
    rcases Nat.lt_or_ge q k with h' | h'
    · exact h q h'
    · obtain rfl : q = k := by omega
      exact hk
  | some e =>
    obtain ⟨h1, h2, h3⟩ := h
    refine ⟨by omega, h2, fun q hq1 hq2 => ?_⟩
    rcases Nat.lt_or_ge q k with h' | h'
    · exact h3 q hq1 h'
    · obtain rfl : q = k := by omega
      exact hk
theorem lastTo_end {p : List Ins} {rs : List Int} {k0 k : Nat} {M : Nat → Prop} {r : Option Nat} (hk : k0 ≤ k) (h : LastTo p rs k0 (k + 1) r) (hM : Exact p rs k0 (k + 1) M) (hl : Lists p M []) : IsLast p rs k0 r := by
  have hb : ∀ q, k + 1 ≤ q → ¬ Acc p rs k0 q := by
    rintro q hq ⟨i, t, hr, ht, h0⟩
    have := none_behind (by omega) hM hl hr
    obtain rfl : q = k + 1 := by omega
    have := (hl i).2 ⟨(hM i).2 hr, t, ht, by omega, by omega, by omega⟩
    simp at this
  cases r with
  | none =>
    intro q
    rcases Nat.lt_or_ge q (k + 1) with h' | h'
    · exact h q h'
    · exact hb q h'
  | some e =>
    refine ⟨h.2.1, fun q hq => ?_⟩
    rcases Nat.lt_or_ge q (k + 1) with h' | h'
    · exact h.2.2 q hq h'
    · exact hb q h'
def succs (p : List Ins) (rs : List Int) (i k : Nat) : List (Nat × Nat) := (eps p rs.length k i).map (fun j => (j, k)) ++ (nxt p rs k i).map fun j => (j, k + 1)
/-- Where the search is: what is seen, what is to do, what is an end. -/
structure RunI (p : List Ins) (rs : List Int) (k0 : Nat) (seen : Nat → Nat → Prop) (todo : List (Nat × Nat)) (out : Nat → Prop) : Prop where
  s0 : seen 0 k0 ∨ (0, k0) ∈ todo
  sd : ∀ i k, seen i k ∨ (i, k) ∈ todo → Reach p rs k0 i k
  cl : ∀ i k, seen i k → ∀ c ∈ succs p rs i k, seen c.1 c.2 ∨ c ∈ todo
  ou : ∀ k, out k ↔ ∃ i t, seen i k ∧ p[i]? = some t ∧ t.op = 0
theorem RunI.start (p : List Ins) (rs : List Int) (k0 : Nat) : RunI p rs k0 (fun _ _ => False) [(0, k0)] (fun _ => False) :=
  ⟨.inr (by simp), fun i k h => by
    rcases h with h | h
    · exact absurd h id
    · obtain ⟨rfl, rfl⟩ : i = 0 ∧ k = k0 := by simpa using h
      exact .start, fun i k h => absurd h id, fun k => ⟨fun h => absurd h id, fun ⟨_, _, h, _⟩ => h⟩⟩
theorem RunI.skip {p : List Ins} {rs : List Int} {k0 i k : Nat} {seen : Nat → Nat → Prop} {l : List (Nat × Nat)} {out : Nat → Prop} (h : RunI p rs k0 seen (l ++ [(i, k)]) out) (hs : seen i k) : RunI p rs k0 seen l out := by
  have key : ∀ c : Nat × Nat, seen c.1 c.2 ∨ c ∈ l ++ [(i, k)] → seen c.1 c.2 ∨ c ∈ l := by
    rintro c (h | h)
    · exact .inl h
    · rcases List.mem_append.1 h with h | h
      · exact .inr h
      · obtain rfl : c = (i, k) := by simpa using h
        exact .inl hs
  exact ⟨key (0, k0) h.s0, fun i k hh => h.sd i k (hh.elim .inl fun e => .inr (List.mem_append_left _ e)), fun a b hab c hc => key c (h.cl a b hab c hc), h.ou⟩
theorem RunI.visit {p : List Ins} {rs : List Int} {k0 i k : Nat} {seen : Nat → Nat → Prop} {l : List (Nat × Nat)} {out : Nat → Prop} {t : Ins} (h : RunI p rs k0 seen (l ++ [(i, k)]) out) (ht : p[i]? = some t) :
    RunI p rs k0 (fun a b => seen a b ∨ (a = i ∧ b = k)) (l ++ succs p rs i k) (fun b => out b ∨ (t.op = 0 ∧ b = k)) := by
  have hr : Reach p rs k0 i k := h.sd i k (.inr (by simp))
  have key : ∀ c : Nat × Nat, seen c.1 c.2 ∨ c ∈ l ++ [(i, k)] → (seen c.1 c.2 ∨ (c.1 = i ∧ c.2 = k)) ∨ c ∈ l ++ succs p rs i k := by
    rintro c (h | h)
    · exact .inl (.inl h)
    · rcases List.mem_append.1 h with h | h
      · exact .inr (List.mem_append_left _ h)
      · obtain rfl : c = (i, k) := by simpa using h
        exact .inl (.inr ⟨rfl, rfl⟩)
  refine ⟨key (0, k0) h.s0, ?_, ?_, ?_⟩
  · rintro a b ((hh | ⟨rfl, rfl⟩) | hh)
    · exact h.sd a b (.inl hh)
    · exact hr
    · rcases List.mem_append.1 hh with hh | hh
      · exact h.sd a b (.inr (List.mem_append_left _ hh))
      · unfold succs at hh
        rcases List.mem_append.1 hh with hh | hh
        · obtain ⟨j, hj, e⟩ := List.mem_map.1 hh
          simp only [Prod.mk.injEq] at e
          obtain ⟨rfl, rfl⟩ := e
          exact .eps i j k hr hj
        · obtain ⟨j, hj, e⟩ := List.mem_map.1 hh
          simp only [Prod.mk.injEq] at e
          obtain ⟨rfl, rfl⟩ := e
          exact .nxt i j k hr hj
  · rintro a b (hh | ⟨rfl, rfl⟩) c hc
    · exact key c (h.cl a b hh c hc)
    · exact .inr (List.mem_append_right _ hc)
  · intro b
    constructor
    · rintro (hh | ⟨h0, rfl⟩)
      · obtain ⟨a, u, h1, h2, h3⟩ := (h.ou b).1 hh
        exact ⟨a, u, .inl h1, h2, h3⟩
      · exact ⟨i, t, .inr ⟨rfl, rfl⟩, ht, h0⟩
    · rintro ⟨a, u, (h1 | ⟨rfl, rfl⟩), h2, h3⟩
      · exact .inl ((h.ou b).2 ⟨a, u, h1, h2, h3⟩)
      · rw [ht] at h2
        obtain rfl := Option.some.inj h2
        exact .inr ⟨h3, rfl⟩
theorem RunI.fin {p : List Ins} {rs : List Int} {k0 : Nat} {seen : Nat → Nat → Prop} {out : Nat → Prop} (h : RunI p rs k0 seen [] out) (k : Nat) : out k ↔ Acc p rs k0 k := by
  have hs : ∀ i k, Reach p rs k0 i k → seen i k := by
    intro i k hr
    refine reach_sub (M := fun k i => seen i k) ?_ ?_ ?_ hr
    · rcases h.s0 with h | h
      · exact h
      · simp at h
    · intro k i j hi hj
      rcases h.cl i k hi (j, k) (by unfold succs; exact List.mem_append_left _ (List.mem_map.2 ⟨j, hj, rfl⟩)) with h | h
      · exact h
      · simp at h
    · intro k i j hi hj
      rcases h.cl i k hi (j, k + 1) (by unfold succs; exact List.mem_append_right _ (List.mem_map.2 ⟨j, hj, rfl⟩)) with h | h
      · exact h
      · simp at h
  rw [h.ou k]
  exact ⟨fun ⟨i, t, a, b, c⟩ => ⟨i, t, h.sd i k (.inl a), b, c⟩, fun ⟨i, t, a, b, c⟩ => ⟨i, t, hs i k a, b, c⟩⟩
/-- The first place from the g-th on at which a match begins, and its end. -/
def firstL (L : Nat → Option Nat) : Nat → Nat → Option (Nat × Nat)
  | 0, _ => none
  | f + 1, g => match L g with
    | some e => some (g, e)
    | none => firstL L f (g + 1)
/-- All matches, as the program finds them. -/
def allP (L : Nat → Option Nat) (m : Nat) : Nat → Nat → Option Nat → List (Nat × Nat) → List (Nat × Nat)
  | 0, _, _, out => out
  | f + 1, g, last, out => if m < g then out else match firstL L (m + 1 - g) g with
    | none => out
    | some (a, e) => if a = e then allP L m f (e + 1) (some e) (if last = some e then out else out ++ [(a, e)]) else allP L m f e (some e) (out ++ [(a, e)])
/-- All matches, as the document does. -/
def allR (L : Nat → Option Nat) (m : Nat) : Nat → Nat → List (Nat × Nat) → List (Nat × Nat)
  | 0, _, out => out
  | f + 1, g, out => match firstL L (m + 1 - g) g with
    | none => out
    | some (a, e) => if a = e ∧ out.getLast?.map (·.2) = some e then (if e + 1 ≤ m then allR L m f (e + 1) out else out) else allR L m f e (out ++ [(a, e)])
theorem firstL_some {L : Nat → Option Nat} : ∀ (f g a e : Nat), firstL L f g = some (a, e) → g ≤ a ∧ a < g + f ∧ L a = some e
  | 0, g, a, e, h => by simp [firstL] at h
  | f + 1, g, a, e, h => by
    rw [firstL] at h
    cases hl : L g with
    | some x =>
      rw [hl] at h
      simp only [Option.some.injEq, Prod.mk.injEq] at h
      obtain ⟨rfl, rfl⟩ := h
      exact ⟨Nat.le_refl _, by omega, hl⟩
    | none =>
      rw [hl] at h
      obtain ⟨h1, h2, h3⟩ := firstL_some f (g + 1) a e h
      exact ⟨by omega, by omega, h3⟩
theorem all_same {L : Nat → Option Nat} {m : Nat} (hL : ∀ k e, k ≤ m → L k = some e → k ≤ e ∧ e ≤ m) : ∀ (k g : Nat) (fp fr : Nat) (out : List (Nat × Nat)), m + 1 - g ≤ k → g ≤ m + 1 → k + 1 ≤ fp → 2 * k + 2 ≤ fr →
    allR L m fr g out = allP L m fp g (out.getLast?.map (·.2)) out := by
  intro k
  induction k with
  | zero =>
    intro g fp fr out hk hg hfp hfr
    obtain rfl : g = m + 1 := by omega
    obtain ⟨fp, rfl⟩ : ∃ x, fp = x + 1 := ⟨fp - 1, by omega⟩
    obtain ⟨fr, rfl⟩ : ∃ x, fr = x + 1 := ⟨fr - 1, by omega⟩
    rw [allR, allP, if_pos (by omega), Nat.sub_self, firstL]
  | succ k ih =>
    intro g fp fr out hk hg hfp hfr
    obtain ⟨fp, rfl⟩ : ∃ x, fp = x + 1 := ⟨fp - 1, by omega⟩
    obtain ⟨fr, rfl⟩ : ∃ x, fr = x + 2 := ⟨fr - 2, by omega⟩
    by_cases hgm : m < g
    · obtain rfl : g = m + 1 := by omega
      rw [allR, allP, if_pos (by omega), Nat.sub_self, firstL]
    rw [allR, allP, if_neg hgm]
    cases hF : firstL L (m + 1 - g) g with
    | none => rfl
    | some q =>
      obtain ⟨a, e⟩ := q
      obtain ⟨h1, h2, h3⟩ := firstL_some _ _ _ _ hF
      obtain ⟨h4, h5⟩ := hL a e (by omega) h3
      simp only
      by_cases hae : a = e
      · subst hae
        simp only [true_and, if_true]
        by_cases hl : out.getLast?.map (·.2) = some a
        · rw [if_pos hl, if_pos hl]
          by_cases hm : a + 1 ≤ m
          · rw [if_pos hm, ih (a + 1) fp (fr + 1) out (by omega) (by omega) (by omega) (by omega), hl]
          · rw [if_neg hm]
            cases fp with
            | zero => rfl
            | succ fp => rw [allP, if_pos (by omega)]
        · rw [if_neg hl, if_neg hl, allR]
          have hF2 : firstL L (m + 1 - a) a = some (a, a) := by
            obtain ⟨f, hf⟩ : ∃ f, m + 1 - a = f + 1 := ⟨m - a, by omega⟩
            rw [hf, firstL, h3]
          have hl2 : (out ++ [(a, a)]).getLast?.map (·.2) = some a := by simp
          rw [hF2]
          simp only [true_and]
          rw [if_pos hl2]
          by_cases hm : a + 1 ≤ m
          · rw [if_pos hm, ih (a + 1) fp fr _ (by omega) (by omega) (by omega) (by omega), hl2]
          · rw [if_neg hm]
            cases fp with
            | zero => rfl
            | succ fp => rw [allP, if_pos (by omega)]
      · simp only [hae, false_and, if_false]
        rw [ih e fp (fr + 1) _ (by omega) (by omega) (by omega) (by omega)]
        simp
end Go.Proofs.Ytjfkppbfckgckaa
namespace Go.Proofs.Ytjfkppbfckgckaa
open Go.RowKit Go.Rb

/-- Is a number a code point? -/
def isB (r : Int) : Bool := decide (0 ≤ r ∧ r ≤ 1114111 ∧ (r < 55296 ∨ 57344 ≤ r))
theorem isB_true {r : Int} : isB r = true ↔ (0 ≤ r ∧ r ≤ 1114111 ∧ (r < 55296 ∨ 57344 ≤ r)) := by unfold isB; exact decide_eq_true_iff
theorem isB_false {r : Int} : isB r = false ↔ ¬ (0 ≤ r ∧ r ≤ 1114111 ∧ (r < 55296 ∨ 57344 ≤ r)) := by unfold isB; exact decide_eq_false_iff_not
def sizeI (r : Int) : Int := if isB r = true then (if r < 128 then 1 else if r < 2048 then 2 else if r < 65536 then 3 else 4) else 0
theorem sizeI_wrong {r : Int} (h : isB r = false) : sizeI r = 0 := by simp [sizeI, h]
theorem sizeI_1 {r : Int} (h : isB r = true) (h1 : r < 128) : sizeI r = 1 := by simp [sizeI, h, h1]
theorem sizeI_2 {r : Int} (h : isB r = true) (h0 : ¬ r < 128) (h1 : r < 2048) : sizeI r = 2 := by simp [sizeI, h, h0, h1]
theorem sizeI_3 {r : Int} (h : isB r = true) (h0 : ¬ r < 2048) (h1 : r < 65536) : sizeI r = 3 := by
  unfold sizeI; rw [if_pos h, if_neg (by omega), if_neg h0, if_pos h1]
theorem sizeI_4 {r : Int} (h : isB r = true) (h0 : ¬ r < 65536) : sizeI r = 4 := by
  unfold sizeI; rw [if_pos h, if_neg (by omega), if_neg (by omega), if_neg h0]

set_option maxHeartbeats 400000 in
theorem codeIs_any (r : Int) (w : World) : Calls Try.prog 72 #[.int .i64 r] w fun e w' => e = .returned (.bool (isB r)) ∧ w = w' := by
  have hk := isB_true (r := r)
  have hk' := isB_false (r := r)
  by_cases h0 : 0 ≤ r <;> by_cases h1 : r ≤ 1114111 <;> by_cases h2 : r < 55296 <;> by_cases h3 : 57344 ≤ r
  all_goals try (exfalso; omega)
  all_goals
    first | (have hb := Lib.hid (hk.2 (by omega))) | (have hb := Lib.hid (hk'.2 (by omega)))
    clear hk hk'
    go_enter Try.func72, Try.ntmps72
    go_wp2
    go_ret
    exact ⟨by rw [hb.out]; rfl, rfl⟩

set_option maxHeartbeats 400000 in
theorem refIs_any (r : Int) (w : World) : Calls Try.prog 47 #[.int .i64 r] w fun e w' => e = .returned (.bool (isB r)) ∧ w = w' := by
  have hk := isB_true (r := r)
  have hk' := isB_false (r := r)
  by_cases h0 : 0 ≤ r <;> by_cases h1 : r ≤ 1114111 <;> by_cases h2 : 55296 ≤ r <;> by_cases h3 : r ≤ 57343
  all_goals try (exfalso; omega)
  all_goals
    first | (have hb := Lib.hid (hk.2 (by omega))) | (have hb := Lib.hid (hk'.2 (by omega)))
    clear hk hk'
    go_enter Try.func47, Try.ntmps47
    go_wp2
    go_ret
    exact ⟨by rw [hb.out]; rfl, rfl⟩

/-- Which of the sizes it is. -/
theorem size_cases (r : Int) : (isB r = false ∧ sizeI r = 0) ∨ (isB r = true ∧ 0 ≤ r ∧ r ≤ 1114111 ∧ ((r < 128 ∧ sizeI r = 1) ∨ (128 ≤ r ∧ r < 2048 ∧ sizeI r = 2) ∨ (2048 ≤ r ∧ r < 65536 ∧ sizeI r = 3) ∨ (65536 ≤ r ∧ sizeI r = 4))) := by
  cases h : isB r
  · exact .inl ⟨rfl, sizeI_wrong h⟩
  · have h' := isB_true.1 h
    refine .inr ⟨rfl, h'.1, h'.2.1, ?_⟩
    by_cases h1 : r < 128
    · exact .inl ⟨h1, sizeI_1 h h1⟩
    · by_cases h2 : r < 2048
      · exact .inr (.inl ⟨by omega, h2, sizeI_2 h h1 h2⟩)
      · by_cases h3 : r < 65536
        · exact .inr (.inr (.inl ⟨by omega, h3, sizeI_3 h h2 h3⟩))
        · exact .inr (.inr (.inr ⟨by omega, sizeI_4 h h3⟩))

set_option maxHeartbeats 400000 in
theorem codeSize_any (r : Int) (w : World) : Calls Try.prog 61 #[.int .i64 r] w fun e w' => e = .returned (.int .i64 (sizeI r)) ∧ w = w' := by
  have hc := codeIs_any r
  rcases size_cases r with ⟨hb, hs⟩ | ⟨hb, h0, h1, ⟨h2, hs⟩ | ⟨h2, h3, hs⟩ | ⟨h2, h3, hs⟩ | ⟨h2, hs⟩⟩
  all_goals
    rw [hb] at hc
    rw [hs]
    have HC := Lib.hid hc
    clear hc hb hs
    go_enter Try.func61, Try.ntmps61
    go_wp2_with (go_at_call 72; refine (HC.out _).mono ?_; rintro e w' ⟨rfl, rfl⟩)
    go_ret
    exact ⟨rfl, rfl⟩

set_option maxHeartbeats 400000 in
theorem refSize_any (r : Int) (w : World) : Calls Try.prog 62 #[.int .i64 r] w fun e w' => e = .returned (.int .i64 (sizeI r)) ∧ w = w' := by
  have hc := refIs_any r
  rcases size_cases r with ⟨hb, hs⟩ | ⟨hb, h0, h1, ⟨h2, hs⟩ | ⟨h2, h3, hs⟩ | ⟨h2, h3, hs⟩ | ⟨h2, hs⟩⟩
  all_goals
    rw [hb] at hc
    rw [hs]
    have HC := Lib.hid hc
    clear hc hb hs
    go_enter Try.func62, Try.ntmps62
    go_wp2_with (go_at_call 47; refine (HC.out _).mono ?_; rintro e w' ⟨rfl, rfl⟩)
    go_ret
    exact ⟨rfl, rfl⟩
end Go.Proofs.Ytjfkppbfckgckaa
namespace Go.Proofs.Ytjfkppbfckgckaa
open Go.RowKit Go.Rb

theorem info5 : (Try.prog.info? 5).map (fun i => (i.zero, i.size, i.bytes)) = some (some (.int .u8 0), 1, 1) := by kernel_rfl

def bV (c : UInt8) : Value := .int .u8 (c.toNat : Int)
/-- A byte of a number. -/
def by_ (n : Int) : UInt8 := UInt8.ofNat n.toNat
theorem bV_by (n : Int) (h0 : 0 ≤ n) (h1 : n < 256) : bV (by_ n) = .int .u8 n := by
  unfold bV by_
  have : (UInt8.ofNat n.toNat).toNat = n.toNat := by
    simp only [UInt8.toNat_ofNat']
    omega
  rw [this]
  congr 1
  omega

/-- The octets of a code point. -/
def put2 (r : Int) : List UInt8 := [by_ (192 + r / 64), by_ (128 + r % 64)]
def put3 (r : Int) : List UInt8 := [by_ (224 + r / 4096), by_ (128 + r / 64 % 64), by_ (128 + r % 64)]
def put4 (r : Int) : List UInt8 := [by_ (240 + r / 262144), by_ (128 + r / 4096 % 64), by_ (128 + r / 64 % 64), by_ (128 + r % 64)]
def putV (r : Int) : List UInt8 := if r < 128 then [by_ r] else if r < 2048 then put2 r else if r < 65536 then put3 r else put4 r
def putL (r : Int) : List UInt8 := putV (if isB r = true then r else 65533)

/-- A new slice of octets: its own, all of it new. -/
def NewB (w w' : World) (v : Value) (bs : List UInt8) : Prop :=
  Own w' 5 1 v bs.length (bs.map bV) ∧ Below w.heap.size w w' ∧ ∀ k, v.ownBlock = some k → w.heap.size ≤ k
def RetNewB (w : World) (bs : List UInt8) (e : Ending) (w' : World) : Prop := ∃ v, e = .returned v ∧ NewB w w' v bs

end Go.Proofs.Ytjfkppbfckgckaa
namespace Go.Proofs.Ytjfkppbfckgckaa
open Go.RowKit Go.Rb

def strV (bs : List UInt8) : Value := .string ⟨bs.toArray⟩
/-- string of a literal of one octet. -/
theorem conv_one (W : World) (g : Nat) (x : Int) (hg : g = W.heap.size) :
    (convert 92 9 (.slice (some ⟨g, 0, none⟩) 1 1)).run Try.prog (W.alloc (.cells #[.int .u8 x] 5)) = .ok (.string ⟨#[by_ x]⟩) (W.alloc (.cells #[.int .u8 x] 5)) := by
  have h := run_convert_bytes_arg (P := Try.prog) (W.alloc (.cells #[.int .u8 x] 5)) 92 5 Try.underlying92 Try.underlying5 g 0 1 1 [x] rfl
    (fun i hi => by
      obtain rfl : i = 0 := by omega
      rw [hg]
      have := (Blk.new W 5 #[.int .u8 x]).cell 0
      simp [this]) 9 Try.underlying9
  rw [h]
  rfl

theorem cat_ (a b : List UInt8) : (⟨a.toArray⟩ : ByteArray) ++ ⟨b.toArray⟩ = ⟨(a ++ b).toArray⟩ := by
  apply ByteArray.ext
  simp [ByteArray.data_append]
theorem ret_str {a b : ByteArray} (h : a = b) : Ending.returned (.string a) = Ending.returned (.string b) := by rw [h]

set_option maxHeartbeats 1000000 in
theorem refPut_2 (r : Int) (w : World) (hb : isB r = true) (h2 : 128 ≤ r) (h3 : r < 2048) (hs : sizeI r = 2) : Calls Try.prog 48 #[.int .i64 r] w fun e w' => e = .returned (strV (put2 r)) ∧ Below w.heap.size w w' := by
  have hc := refIs_any r
  have hd := refSize_any r
  rw [hb] at hc
  rw [hs] at hd
  have HC := Lib.hid hc
  have HD := Lib.hid hd
  clear hc hd hb
  have kc := conv_one
  go_enter Try.func48, Try.ntmps48
  go_wp2_with (first
    | (go_at_call 47; refine (HC.out _).mono ?_; rintro e w' ⟨rfl, rfl⟩)
    | (go_at_call 62; refine (HD.out _).mono ?_; rintro e w' ⟨rfl, rfl⟩))
  refine wp_loop_rounds 2 ?_
  rw [rounds_succ]
  go_wp2
  rw [rounds_succ]
  go_wp2
  go_ret
  refine ⟨ret_str (by first | rfl | (simp only [show ∀ a : UInt8, (⟨#[a]⟩ : ByteArray) = ⟨[a].toArray⟩ from fun _ => rfl, show (⟨#[]⟩ : ByteArray) = ⟨([] : List UInt8).toArray⟩ from rfl, cat_, show r / 64 / 64 = r / 4096 by omega, show r / 4096 / 64 = r / 262144 by omega]; rfl)), ?_⟩
  repeat (first | exact Below.refl _ _ | refine below_al ?_ _)

set_option maxHeartbeats 1000000 in
theorem refPut_3 (r : Int) (w : World) (hb : isB r = true) (h2 : 2048 ≤ r) (h3 : r < 65536) (hs : sizeI r = 3) : Calls Try.prog 48 #[.int .i64 r] w fun e w' => e = .returned (strV (put3 r)) ∧ Below w.heap.size w w' := by
  have hc := refIs_any r
  have hd := refSize_any r
  rw [hb] at hc
  rw [hs] at hd
  have HC := Lib.hid hc
  have HD := Lib.hid hd
  clear hc hd hb
  have kc := conv_one
  go_enter Try.func48, Try.ntmps48
  go_wp2_with (first
    | (go_at_call 47; refine (HC.out _).mono ?_; rintro e w' ⟨rfl, rfl⟩)
    | (go_at_call 62; refine (HD.out _).mono ?_; rintro e w' ⟨rfl, rfl⟩))
  refine wp_loop_rounds 3 ?_
  rw [rounds_succ]
  go_wp2
  rw [rounds_succ]
  go_wp2
  rw [rounds_succ]
  go_wp2
  go_ret
  refine ⟨ret_str (by first | rfl | (simp only [show ∀ a : UInt8, (⟨#[a]⟩ : ByteArray) = ⟨[a].toArray⟩ from fun _ => rfl, show (⟨#[]⟩ : ByteArray) = ⟨([] : List UInt8).toArray⟩ from rfl, cat_, show r / 64 / 64 = r / 4096 by omega, show r / 4096 / 64 = r / 262144 by omega]; rfl)), ?_⟩
  repeat (first | exact Below.refl _ _ | refine below_al ?_ _)

set_option maxHeartbeats 1000000 in
theorem refPut_4 (r : Int) (w : World) (hb : isB r = true) (h2 : 65536 ≤ r) (h3 : r < 1114112) (hs : sizeI r = 4) : Calls Try.prog 48 #[.int .i64 r] w fun e w' => e = .returned (strV (put4 r)) ∧ Below w.heap.size w w' := by
  have hc := refIs_any r
  have hd := refSize_any r
  rw [hb] at hc
  rw [hs] at hd
  have HC := Lib.hid hc
  have HD := Lib.hid hd
  clear hc hd hb
  have kc := conv_one
  go_enter Try.func48, Try.ntmps48
  go_wp2_with (first
    | (go_at_call 47; refine (HC.out _).mono ?_; rintro e w' ⟨rfl, rfl⟩)
    | (go_at_call 62; refine (HD.out _).mono ?_; rintro e w' ⟨rfl, rfl⟩))
  refine wp_loop_rounds 4 ?_
  rw [rounds_succ]
  go_wp2
  rw [rounds_succ]
  go_wp2
  rw [rounds_succ]
  go_wp2
  rw [rounds_succ]
  go_wp2
  go_ret
  refine ⟨ret_str (by first | rfl | (simp only [show ∀ a : UInt8, (⟨#[a]⟩ : ByteArray) = ⟨[a].toArray⟩ from fun _ => rfl, show (⟨#[]⟩ : ByteArray) = ⟨([] : List UInt8).toArray⟩ from rfl, cat_, show r / 64 / 64 = r / 4096 by omega, show r / 4096 / 64 = r / 262144 by omega]; rfl)), ?_⟩
  repeat (first | exact Below.refl _ _ | refine below_al ?_ _)

set_option maxHeartbeats 1000000 in
theorem refPut_wrong (r : Int) (w : World) (hb : isB r = false) : Calls Try.prog 48 #[.int .i64 r] w fun e w' => e = .returned (strV (put3 65533)) ∧ Below w.heap.size w w' := by
  have hc := refIs_any r
  have hd := refSize_any 65533
  rw [hb] at hc
  rw [show sizeI 65533 = 3 by decide] at hd
  have HC := Lib.hid hc
  have HD := Lib.hid hd
  clear hc hd hb
  have kc := conv_one
  go_enter Try.func48, Try.ntmps48
  go_wp2_with (first
    | (go_at_call 47; refine (HC.out _).mono ?_; rintro e w' ⟨rfl, rfl⟩)
    | (go_at_call 62; refine (HD.out _).mono ?_; rintro e w' ⟨rfl, rfl⟩))
  refine wp_loop_rounds 3 ?_
  rw [rounds_succ]
  go_wp2
  rw [rounds_succ]
  go_wp2
  rw [rounds_succ]
  go_wp2
  go_ret
  refine ⟨ret_str (by first | rfl | (simp only [show ∀ a : UInt8, (⟨#[a]⟩ : ByteArray) = ⟨[a].toArray⟩ from fun _ => rfl, show (⟨#[]⟩ : ByteArray) = ⟨([] : List UInt8).toArray⟩ from rfl, cat_, show r / 64 / 64 = r / 4096 by omega, show r / 4096 / 64 = r / 262144 by omega]; rfl)), ?_⟩
  repeat (first | exact Below.refl _ _ | refine below_al ?_ _)

set_option maxHeartbeats 1000000 in
theorem refPut_1 (r : Int) (w : World) (hb : isB r = true) (h2 : 0 ≤ r) (h3 : r < 128) (hs : sizeI r = 1) : Calls Try.prog 48 #[.int .i64 r] w fun e w' => e = .returned (strV [by_ r]) ∧ Below w.heap.size w w' := by
  have hc := refIs_any r
  have hd := refSize_any r
  rw [hb] at hc
  rw [hs] at hd
  have HC := Lib.hid hc
  have HD := Lib.hid hd
  clear hc hd hb
  have kc := conv_one
  go_enter Try.func48, Try.ntmps48
  go_wp2_with (first
    | (go_at_call 47; refine (HC.out _).mono ?_; rintro e w' ⟨rfl, rfl⟩)
    | (go_at_call 62; refine (HD.out _).mono ?_; rintro e w' ⟨rfl, rfl⟩))
  go_ret
  exact ⟨rfl, (Below.refl _ _).alloc (Nat.le_refl _) _⟩

theorem refPut_any (r : Int) (w : World) : Calls Try.prog 48 #[.int .i64 r] w fun e w' => e = .returned (strV (putL r)) ∧ Below w.heap.size w w' := by
  unfold putL
  rcases size_cases r with ⟨hb, hs⟩ | ⟨hb, h0, h1, ⟨h2, hs⟩ | ⟨h2, h3, hs⟩ | ⟨h2, h3, hs⟩ | ⟨h2, hs⟩⟩
  · have := refPut_wrong r w hb
    simpa [putV, hb] using this
  · have := refPut_1 r w hb h0 h2 hs
    rwa [if_pos hb, show putV r = [by_ r] by unfold putV; rw [if_pos h2]]
  · have := refPut_2 r w hb h2 h3 hs
    rwa [if_pos hb, show putV r = put2 r by unfold putV; rw [if_neg (by omega), if_pos h3]]
  · have := refPut_3 r w hb h2 h3 hs
    rwa [if_pos hb, show putV r = put3 r by unfold putV; rw [if_neg (by omega), if_neg (by omega), if_pos h3]]
  · have := refPut_4 r w hb h2 (by omega) hs
    rwa [if_pos hb, show putV r = put4 r by unfold putV; rw [if_neg (by omega), if_neg (by omega), if_neg (by omega)]]
end Go.Proofs.Ytjfkppbfckgckaa
namespace Go.Proofs.Ytjfkppbfckgckaa
open Go.RowKit Go.Rb

theorem strOfNums_bytes (bs : List UInt8) : strOfNums (bs.map fun c => (c.toNat : Int)) = ⟨bs.toArray⟩ := by
  unfold strOfNums
  congr 2
  rw [List.map_map]
  conv => rhs; rw [← List.map_id bs]
  apply List.map_congr_left
  intro c _
  simp
/-- string(b) of a slice that reads as octets. -/
theorem conv_rd {W : World} {B n cap : Nat} {A : Option Addr} {bs : List UInt8} (h : Rd W B 1 A n (bs.map bV)) :
    (convert 92 9 (.slice A n cap)).run Try.prog W = .ok (.string ⟨bs.toArray⟩) W := by
  have hl : bs.length = n := by simpa using h.1
  rcases Nat.eq_zero_or_pos n with h0 | h0
  · subst h0
    obtain rfl : bs = [] := List.eq_nil_of_length_eq_zero hl
    cases A with
    | none => exact run_convert_bytes_nil W 92 5 Try.underlying92 Try.underlying5 0 cap 9 Try.underlying9
    | some a => exact run_convert_bytes_back W 92 9 5 a cap [] Try.underlying92 Try.underlying5 Try.underlying9 (fun j hj => absurd hj (by simp))
  · obtain ⟨b, off, rfl, _, hc⟩ := h.2 h0
    have := run_convert_bytes_arg (P := Try.prog) W 92 5 Try.underlying92 Try.underlying5 b off n cap (bs.map fun c => (c.toNat : Int)) (by simpa using hl)
      (fun i hi => by
        rw [hc i (by omega), List.getElem?_map, List.getElem?_eq_getElem (by omega)]
        simp [bV, List.getD, List.getElem?_map, List.getElem?_eq_getElem (show i < bs.length by omega)]) 9 Try.underlying9
    rw [strOfNums_bytes] at this
    exact this
theorem conv_own {W : World} {v : Value} {n : Nat} {bs : List UInt8} (h : Own W 5 1 v n (bs.map bV)) :
    (convert 92 9 v).run Try.prog W = .ok (.string ⟨bs.toArray⟩) W := by
  obtain ⟨A, cap, rfl, _, _⟩ := h.len_
  exact conv_rd h.rd

theorem Own.rd' {w : World} {e : TypeId} {n : Nat} {v : Value} {xs : List Value} (h : Own w e 1 v n xs) : ∃ A cap, v = .slice A n cap ∧ Rd w w.heap.size 1 A n xs ∧ n ≤ cap := by
  obtain ⟨A, cap, rfl, hc, _⟩ := h.len_
  exact ⟨A, cap, rfl, h.rd, hc⟩

theorem conv_later {W1 W2 : World} {v : Value} {n : Nat} {bs : List UInt8} (h : Own W1 5 1 v n (bs.map bV)) (hb : Below W1.heap.size W1 W2) :
    (convert 92 9 v).run Try.prog W2 = .ok (.string ⟨bs.toArray⟩) W2 := conv_own (h.below hb fun _ hk => h.lt hk)
theorem own_later {W1 W2 : World} {v : Value} {n : Nat} {bs : List UInt8} (h : Own W1 5 1 v n (bs.map bV)) (hb : Below W1.heap.size W1 W2) :
    Own W2 5 1 v n (bs.map bV) := h.below hb fun _ hk => h.lt hk
end Go.Proofs.Ytjfkppbfckgckaa
namespace Go.Proofs.Ytjfkppbfckgckaa
open Go.RowKit Go.Rb

def lenB (c : Int) : Int := if c < 128 then 1 else if 194 ≤ c ∧ c < 224 then 2 else if 224 ≤ c ∧ c < 240 then 3 else if 240 ≤ c ∧ c < 245 then 4 else 0
theorem lenB_cases (c : Int) : (c < 128 ∧ lenB c = 1) ∨ (128 ≤ c ∧ c < 194 ∧ lenB c = 0) ∨ (194 ≤ c ∧ c < 224 ∧ lenB c = 2) ∨ (224 ≤ c ∧ c < 240 ∧ lenB c = 3) ∨ (240 ≤ c ∧ c < 245 ∧ lenB c = 4) ∨ (245 ≤ c ∧ lenB c = 0) := by
  unfold lenB
  by_cases h1 : c < 128
  · exact .inl ⟨h1, if_pos h1⟩
  · rw [if_neg h1]
    by_cases h2 : 194 ≤ c ∧ c < 224
    · rw [if_pos h2]; exact .inr (.inr (.inl ⟨h2.1, h2.2, rfl⟩))
    · rw [if_neg h2]
      by_cases h3 : 224 ≤ c ∧ c < 240
      · rw [if_pos h3]; exact .inr (.inr (.inr (.inl ⟨h3.1, h3.2, rfl⟩)))
      · rw [if_neg h3]
        by_cases h4 : 240 ≤ c ∧ c < 245
        · rw [if_pos h4]; exact .inr (.inr (.inr (.inr (.inl ⟨h4.1, h4.2, rfl⟩))))
        · rw [if_neg h4]; omega

set_option maxHeartbeats 400000 in
theorem length_any (c : Int) (w : World) : Calls Try.prog 60 #[.int .u8 c] w fun e w' => e = .returned (.int .i64 (lenB c)) ∧ w = w' := by
  rcases lenB_cases c with ⟨h1, h⟩ | ⟨h1, h2, h⟩ | ⟨h1, h2, h⟩ | ⟨h1, h2, h⟩ | ⟨h1, h2, h⟩ | ⟨h1, h⟩
  all_goals
    rw [h]
    clear h
    go_enter Try.func60, Try.ntmps60
    go_wp2
    go_ret
    exact ⟨rfl, rfl⟩

/-- What number the octets say; no code point: 65533, one octet. -/
def badG : Int × Int := (65533, 1)
def finG (n r : Int) : Int × Int := if sizeI r = n then (r, n) else badG
def cont (c : UInt8) : Prop := (c.toNat : Int) / 64 = 2
instance (c : UInt8) : Decidable (cont c) := inferInstanceAs (Decidable ((c.toNat : Int) / 64 = 2))
def low (c : UInt8) : Int := (c.toNat : Int) % 64
def getP : List UInt8 → Int × Int
  | [] => (65533, 0)
  | c0 :: rest =>
    if lenB c0.toNat = 1 then (c0.toNat, 1)
    else if lenB c0.toNat = 2 then
      match rest with
      | c1 :: _ => if cont c1 then finG 2 ((c0.toNat : Int) % 32 * 64 + low c1) else badG
      | _ => badG
    else if lenB c0.toNat = 3 then
      match rest with
      | c1 :: c2 :: _ => if cont c1 then if cont c2 then finG 3 (((c0.toNat : Int) % 16 * 64 + low c1) * 64 + low c2) else badG else badG
      | _ => badG
    else if lenB c0.toNat = 4 then
      match rest with
      | c1 :: c2 :: c3 :: _ => if cont c1 then if cont c2 then if cont c3 then finG 4 ((((c0.toNat : Int) % 8 * 64 + low c1) * 64 + low c2) * 64 + low c3) else badG else badG else badG
      | _ => badG
    else badG
def GetTo (p : Int × Int) (w : World) (e : Ending) (w' : World) : Prop := e = .returned (.tuple #[.int .i64 p.1, .int .i64 p.2]) ∧ w = w'

theorem or_six (r x : Int) (h0 : 0 ≤ r) (h1 : r < 1048576) (h2 : 0 ≤ x) (h3 : x < 64) : bits .or .i64 (r * 64) x = r * 64 + x := by
  obtain ⟨a, rfl⟩ := Int.eq_ofNat_of_zero_le h0
  obtain ⟨b, rfl⟩ := Int.eq_ofNat_of_zero_le h2
  have e : ((a : Int) * (64 : Int)) = ((a <<< 6 : Nat) : Int) := by rw [Nat.shiftLeft_eq]; omega
  have hs : a <<< 6 = a * 64 := by rw [Nat.shiftLeft_eq]
  rw [e, i64_or _ _ (by omega) (by omega), ← Nat.shiftLeft_add_eq_or_of_lt (by omega : b < 2 ^ 6)]
  omega
theorem u8_mask (x : Int) (h0 : 0 ≤ x) (h1 : x < 256) : bits .and .u8 x 63 = x % 64 := by
  obtain ⟨n, rfl⟩ := Int.eq_ofNat_of_zero_le h0
  have : ∀ n, n < 256 → bits .and .u8 (n : Nat) 63 = ((n : Nat) : Int) % 64 := by decide +kernel
  exact this n (by omega)

/-- The octets of a slice, by their cells. -/
theorem Rd.byte {w : World} {B n : Nat} {A : Option Addr} {bs : List UInt8} (h : Rd w B 1 A n (bs.map bV)) (hn : 0 < n) :
    ∃ b off, A = some ⟨b, off, none⟩ ∧ b < B ∧ ∀ j (hj : j < bs.length), w.cell? ⟨b, off + j, none⟩ = some (.int .u8 (bs[j].toNat : Int)) := by
  obtain ⟨b, off, hA, hb, hc⟩ := h.2 hn
  have hl : bs.length = n := by simpa using h.1
  refine ⟨b, off, hA, hb, fun j hj => ?_⟩
  rw [hc j (by omega), List.getElem?_map, List.getElem?_eq_getElem hj]
  rfl

set_option maxHeartbeats 2000000 in
theorem codeGet_2 (x0 x1 : Int) (b off n c : Nat) (w : World) (h0 : 194 ≤ x0) (h1 : x0 < 224) (l1 : 0 ≤ x1) (u1 : x1 < 256)
    (d0 : w.cell? ⟨b, off, none⟩ = some (.int .u8 x0)) (d1 : w.cell? ⟨b, off + 1, none⟩ = some (.int .u8 x1)) (hn : 2 ≤ n) (hc : n ≤ c) (hn2 : n ≤ 1000000) (p : Int × Int)
    (hp : Hid ((if x1 / 64 = 2 then finG 2 (x0 % 32 * 64 + x1 % 64) else badG) = p)) :
    Calls Try.prog 45 #[.slice (some ⟨b, off, none⟩) n c] w (GetTo p w) := by
  have hle := length_any x0
  rw [show lenB x0 = 2 by unfold lenB; rw [if_neg (by omega), if_pos ⟨h0, h1⟩]] at hle
  have HL := Lib.hid hle
  have m0 := i64_mask 5 (by omega) x0 31 (by omega) (by omega) rfl
  have m1 := u8_mask x1 l1 u1
  have hn0 : ((n : Int) == 0) = false := by simp; omega
  have hc1 : ¬ c = 1 := by omega
  have o1 := or_six (x0 % 32) (x1 % 64) (by omega) (by omega) (by omega) (by omega)
  clear hle
  go_enter Try.func45, Try.ntmps45
  go_wp2_with (go_at_call 60; refine (HL.out _).mono ?_; rintro e w' ⟨rfl, rfl⟩)
  refine wp_loop_rounds 2 ?_
  by_cases t1 : x1 / 64 = 2
  case neg =>
    have q1 : (x1 / 64 != 2) = true := by simpa using t1
    have hpp : Hid (badG = p) := by have := hp.out; rw [if_neg t1] at this; exact this
    clear t1
    rw [rounds_succ]
    go_wp2
    go_ret2
    exact ⟨by rw [← hpp.out]; rfl, rfl⟩
  have q1 : (x1 / 64 != 2) = false := by simpa using t1
  have T1 := Lib.hid t1
  clear t1
  rw [rounds_succ]
  go_wp2
  rw [rounds_succ]
  go_wp2_with fail
  have hpp : Hid (finG 2 (x0 % 32 * 64 + x1 % 64) = p) := by have := hp.out; rw [if_pos T1.out] at this; exact this
  refine (codeSize_any _ _).mono ?_
  rintro e w' ⟨rfl, rfl⟩
  unfold finG at hpp
  generalize sizeI (x0 % 32 * 64 + x1 % 64) = sz at *
  by_cases hs : sz = 2
  · have hpq : Hid (((x0 % 32 * 64 + x1 % 64, 2) : Int × Int) = p) := by have := hpp.out; rw [if_pos hs] at this; exact this
    subst hs
    go_wp2
    go_ret2
    exact ⟨by rw [← hpq.out]; rfl, rfl⟩
  · have hsb : (sz != 2) = true := by simpa using hs
    have hpq : Hid (badG = p) := by have := hpp.out; rw [if_neg hs] at this; exact this
    go_wp2
    go_ret2
    exact ⟨by rw [← hpq.out]; rfl, rfl⟩

set_option maxHeartbeats 2000000 in
theorem codeGet_3 (x0 x1 x2 : Int) (b off n c : Nat) (w : World) (h0 : 224 ≤ x0) (h1 : x0 < 240) (l1 : 0 ≤ x1) (u1 : x1 < 256) (l2 : 0 ≤ x2) (u2 : x2 < 256)
    (d0 : w.cell? ⟨b, off, none⟩ = some (.int .u8 x0)) (d1 : w.cell? ⟨b, off + 1, none⟩ = some (.int .u8 x1)) (d2 : w.cell? ⟨b, off + 2, none⟩ = some (.int .u8 x2)) (hn : 3 ≤ n) (hc : n ≤ c) (hn2 : n ≤ 1000000) (p : Int × Int)
    (hp : Hid ((if x1 / 64 = 2 then if x2 / 64 = 2 then finG 3 ((x0 % 16 * 64 + x1 % 64) * 64 + x2 % 64) else badG else badG) = p)) :
    Calls Try.prog 45 #[.slice (some ⟨b, off, none⟩) n c] w (GetTo p w) := by
  have hle := length_any x0
  rw [show lenB x0 = 3 by unfold lenB; rw [if_neg (by omega), if_neg (by omega), if_pos ⟨h0, h1⟩]] at hle
  have HL := Lib.hid hle
  have m0 := i64_mask 4 (by omega) x0 15 (by omega) (by omega) rfl
  have m1 := u8_mask x1 l1 u1
  have m2 := u8_mask x2 l2 u2
  have d2' : w.cell? ⟨b, off + 1 + 1, none⟩ = some (.int .u8 x2) := by rw [Nat.add_assoc]; exact d2
  have hn0 : ((n : Int) == 0) = false := by simp; omega
  have hc1 : ¬ c = 1 := by omega
  have o1 := or_six (x0 % 16) (x1 % 64) (by omega) (by omega) (by omega) (by omega)
  have o2 := or_six (x0 % 16 * 64 + x1 % 64) (x2 % 64) (by omega) (by omega) (by omega) (by omega)
  clear hle
  go_enter Try.func45, Try.ntmps45
  go_wp2_with (go_at_call 60; refine (HL.out _).mono ?_; rintro e w' ⟨rfl, rfl⟩)
  refine wp_loop_rounds 3 ?_
  by_cases t1 : x1 / 64 = 2
  case neg =>
    have q1 : (x1 / 64 != 2) = true := by simpa using t1
    have hpp : Hid (badG = p) := by have := hp.out; rw [if_neg t1] at this; exact this
    clear t1
    rw [rounds_succ]
    go_wp2
    go_ret2
    exact ⟨by rw [← hpp.out]; rfl, rfl⟩
  have q1 : (x1 / 64 != 2) = false := by simpa using t1
  have T1 := Lib.hid t1
  clear t1
  rw [rounds_succ]
  go_wp2
  by_cases t2 : x2 / 64 = 2
  case neg =>
    have q2 : (x2 / 64 != 2) = true := by simpa using t2
    have hpp : Hid (badG = p) := by have := hp.out; rw [if_pos T1.out] at this; rw [if_neg t2] at this; exact this
    clear t2
    rw [rounds_succ]
    go_wp2
    go_ret2
    exact ⟨by rw [← hpp.out]; rfl, rfl⟩
  have q2 : (x2 / 64 != 2) = false := by simpa using t2
  have T2 := Lib.hid t2
  clear t2
  rw [rounds_succ]
  go_wp2
  rw [rounds_succ]
  go_wp2_with fail
  have hpp : Hid (finG 3 ((x0 % 16 * 64 + x1 % 64) * 64 + x2 % 64) = p) := by have := hp.out; rw [if_pos T1.out] at this; rw [if_pos T2.out] at this; exact this
  refine (codeSize_any _ _).mono ?_
  rintro e w' ⟨rfl, rfl⟩
  unfold finG at hpp
  generalize sizeI ((x0 % 16 * 64 + x1 % 64) * 64 + x2 % 64) = sz at *
  by_cases hs : sz = 3
  · have hpq : Hid ((((x0 % 16 * 64 + x1 % 64) * 64 + x2 % 64, 3) : Int × Int) = p) := by have := hpp.out; rw [if_pos hs] at this; exact this
    subst hs
    go_wp2
    go_ret2
    exact ⟨by rw [← hpq.out]; rfl, rfl⟩
  · have hsb : (sz != 3) = true := by simpa using hs
    have hpq : Hid (badG = p) := by have := hpp.out; rw [if_neg hs] at this; exact this
    go_wp2
    go_ret2
    exact ⟨by rw [← hpq.out]; rfl, rfl⟩

set_option maxHeartbeats 2000000 in
theorem codeGet_4 (x0 x1 x2 x3 : Int) (b off n c : Nat) (w : World) (h0 : 240 ≤ x0) (h1 : x0 < 245) (l1 : 0 ≤ x1) (u1 : x1 < 256) (l2 : 0 ≤ x2) (u2 : x2 < 256) (l3 : 0 ≤ x3) (u3 : x3 < 256)
    (d0 : w.cell? ⟨b, off, none⟩ = some (.int .u8 x0)) (d1 : w.cell? ⟨b, off + 1, none⟩ = some (.int .u8 x1)) (d2 : w.cell? ⟨b, off + 2, none⟩ = some (.int .u8 x2)) (d3 : w.cell? ⟨b, off + 3, none⟩ = some (.int .u8 x3)) (hn : 4 ≤ n) (hc : n ≤ c) (hn2 : n ≤ 1000000) (p : Int × Int)
    (hp : Hid ((if x1 / 64 = 2 then if x2 / 64 = 2 then if x3 / 64 = 2 then finG 4 (((x0 % 8 * 64 + x1 % 64) * 64 + x2 % 64) * 64 + x3 % 64) else badG else badG else badG) = p)) :
    Calls Try.prog 45 #[.slice (some ⟨b, off, none⟩) n c] w (GetTo p w) := by
  have hle := length_any x0
  rw [show lenB x0 = 4 by unfold lenB; rw [if_neg (by omega), if_neg (by omega), if_neg (by omega), if_pos ⟨h0, h1⟩]] at hle
  have HL := Lib.hid hle
  have m0 := i64_mask 3 (by omega) x0 7 (by omega) (by omega) rfl
  have m1 := u8_mask x1 l1 u1
  have m2 := u8_mask x2 l2 u2
  have m3 := u8_mask x3 l3 u3
  have d2' : w.cell? ⟨b, off + 1 + 1, none⟩ = some (.int .u8 x2) := by rw [Nat.add_assoc]; exact d2
  have d3' : w.cell? ⟨b, off + 1 + 2, none⟩ = some (.int .u8 x3) := by rw [Nat.add_assoc]; exact d3
  have hn0 : ((n : Int) == 0) = false := by simp; omega
  have hc1 : ¬ c = 1 := by omega
  have o1 := or_six (x0 % 8) (x1 % 64) (by omega) (by omega) (by omega) (by omega)
  have o2 := or_six (x0 % 8 * 64 + x1 % 64) (x2 % 64) (by omega) (by omega) (by omega) (by omega)
  have o3 := or_six ((x0 % 8 * 64 + x1 % 64) * 64 + x2 % 64) (x3 % 64) (by omega) (by omega) (by omega) (by omega)
  clear hle
  go_enter Try.func45, Try.ntmps45
  go_wp2_with (go_at_call 60; refine (HL.out _).mono ?_; rintro e w' ⟨rfl, rfl⟩)
  refine wp_loop_rounds 4 ?_
  by_cases t1 : x1 / 64 = 2
  case neg =>
    have q1 : (x1 / 64 != 2) = true := by simpa using t1
    have hpp : Hid (badG = p) := by have := hp.out; rw [if_neg t1] at this; exact this
    clear t1
    rw [rounds_succ]
    go_wp2
    go_ret2
    exact ⟨by rw [← hpp.out]; rfl, rfl⟩
  have q1 : (x1 / 64 != 2) = false := by simpa using t1
  have T1 := Lib.hid t1
  clear t1
  rw [rounds_succ]
  go_wp2
  by_cases t2 : x2 / 64 = 2
  case neg =>
    have q2 : (x2 / 64 != 2) = true := by simpa using t2
    have hpp : Hid (badG = p) := by have := hp.out; rw [if_pos T1.out] at this; rw [if_neg t2] at this; exact this
    clear t2
    rw [rounds_succ]
    go_wp2
    go_ret2
    exact ⟨by rw [← hpp.out]; rfl, rfl⟩
  have q2 : (x2 / 64 != 2) = false := by simpa using t2
  have T2 := Lib.hid t2
  clear t2
  rw [rounds_succ]
  go_wp2
  by_cases t3 : x3 / 64 = 2
  case neg =>
    have q3 : (x3 / 64 != 2) = true := by simpa using t3
    have hpp : Hid (badG = p) := by have := hp.out; rw [if_pos T1.out] at this; rw [if_pos T2.out] at this; rw [if_neg t3] at this; exact this
    clear t3
    rw [rounds_succ]
    go_wp2
    go_ret2
    exact ⟨by rw [← hpp.out]; rfl, rfl⟩
  have q3 : (x3 / 64 != 2) = false := by simpa using t3
  have T3 := Lib.hid t3
  clear t3
  rw [rounds_succ]
  go_wp2
  rw [rounds_succ]
  go_wp2_with fail
  have hpp : Hid (finG 4 (((x0 % 8 * 64 + x1 % 64) * 64 + x2 % 64) * 64 + x3 % 64) = p) := by have := hp.out; rw [if_pos T1.out] at this; rw [if_pos T2.out] at this; rw [if_pos T3.out] at this; exact this
  refine (codeSize_any _ _).mono ?_
  rintro e w' ⟨rfl, rfl⟩
  unfold finG at hpp
  generalize sizeI (((x0 % 8 * 64 + x1 % 64) * 64 + x2 % 64) * 64 + x3 % 64) = sz at *
  by_cases hs : sz = 4
  · have hpq : Hid (((((x0 % 8 * 64 + x1 % 64) * 64 + x2 % 64) * 64 + x3 % 64, 4) : Int × Int) = p) := by have := hpp.out; rw [if_pos hs] at this; exact this
    subst hs
    go_wp2
    go_ret2
    exact ⟨by rw [← hpq.out]; rfl, rfl⟩
  · have hsb : (sz != 4) = true := by simpa using hs
    have hpq : Hid (badG = p) := by have := hpp.out; rw [if_neg hs] at this; exact this
    go_wp2
    go_ret2
    exact ⟨by rw [← hpq.out]; rfl, rfl⟩

set_option maxHeartbeats 1000000 in
theorem codeGet_1 (x0 : Int) (b off n c : Nat) (w : World) (l0 : 0 ≤ x0) (h1 : x0 < 128)
    (d0 : w.cell? ⟨b, off, none⟩ = some (.int .u8 x0)) (hn : 1 ≤ n) (hc : n ≤ c) (hn2 : n ≤ 1000000) :
    Calls Try.prog 45 #[.slice (some ⟨b, off, none⟩) n c] w (GetTo (x0, 1) w) := by
  have hle := length_any x0
  rw [show lenB x0 = 1 by unfold lenB; rw [if_pos h1]] at hle
  have HL := Lib.hid hle
  have hsz := codeSize_any x0
  rw [sizeI_1 (isB_true.2 (by omega)) h1] at hsz
  have HS := Lib.hid hsz
  have hn0 : ((n : Int) == 0) = false := by simp; omega
  clear hle hsz
  by_cases hc1 : c = 1
  all_goals
    go_enter Try.func45, Try.ntmps45
    go_wp2_with (go_at_call 60; refine (HL.out _).mono ?_; rintro e w' ⟨rfl, rfl⟩)
    refine wp_loop_rounds 1 ?_
    rw [rounds_succ]
    go_wp2_with fail
    refine (HS.out _).mono ?_
    rintro e w' ⟨rfl, rfl⟩
    go_wp2
    go_ret2
    exact ⟨rfl, rfl⟩

set_option maxHeartbeats 1000000 in
theorem codeGet_0 (x0 : Int) (b off n c : Nat) (w : World) (hl : lenB x0 = 0)
    (d0 : w.cell? ⟨b, off, none⟩ = some (.int .u8 x0)) (hn : 1 ≤ n) (hc : n ≤ c) (hn2 : n ≤ 1000000) :
    Calls Try.prog 45 #[.slice (some ⟨b, off, none⟩) n c] w (GetTo badG w) := by
  have hle := length_any x0
  rw [hl] at hle
  have HL := Lib.hid hle
  have hn0 : ((n : Int) == 0) = false := by simp; omega
  clear hle hl
  go_enter Try.func45, Try.ntmps45
  go_wp2_with (go_at_call 60; refine (HL.out _).mono ?_; rintro e w' ⟨rfl, rfl⟩)
  go_ret2
  exact ⟨rfl, rfl⟩

set_option maxHeartbeats 1000000 in
theorem codeGet_short (x0 k : Int) (b off n c : Nat) (w : World) (hl : lenB x0 = k) (hk : (n : Int) < k) (hk4 : k ≤ 4)
    (d0 : w.cell? ⟨b, off, none⟩ = some (.int .u8 x0)) (hn : 1 ≤ n) (hc : n ≤ c) (hn2 : n ≤ 1000000) :
    Calls Try.prog 45 #[.slice (some ⟨b, off, none⟩) n c] w (GetTo badG w) := by
  have hle := length_any x0
  rw [hl] at hle
  have HL := Lib.hid hle
  have hn0 : ((n : Int) == 0) = false := by simp; omega
  have hk0 : (k == 0) = false := by simp; omega
  clear hle hl
  go_enter Try.func45, Try.ntmps45
  go_wp2_with (go_at_call 60; refine (HL.out _).mono ?_; rintro e w' ⟨rfl, rfl⟩)
  go_ret2
  exact ⟨rfl, rfl⟩

set_option maxHeartbeats 400000 in
theorem codeGet_nil (A : Option Addr) (c : Nat) (w : World) :
    Calls Try.prog 45 #[.slice A 0 c] w (GetTo (65533, 0) w) := by
  go_enter Try.func45, Try.ntmps45
  go_wp2
  go_ret2
  exact ⟨rfl, rfl⟩

theorem getP_one (c0 : UInt8) (rest : List UInt8) (h : lenB (c0.toNat : Int) = 1) : getP (c0 :: rest) = ((c0.toNat : Int), 1) := by
  unfold getP
  dsimp only
  rw [if_pos h]
theorem getP_zero (c0 : UInt8) (rest : List UInt8) (h : lenB (c0.toNat : Int) = 0) : getP (c0 :: rest) = badG := by
  unfold getP
  dsimp only
  rw [if_neg (by omega), if_neg (by omega), if_neg (by omega), if_neg (by omega)]
theorem getP_2 (c0 c1 : UInt8) (rest : List UInt8) (h : lenB (c0.toNat : Int) = 2) : getP (c0 :: c1 :: rest) = (if cont c1 then finG 2 ((c0.toNat : Int) % 32 * 64 + low c1) else badG) := by
  unfold getP
  dsimp only
  rw [if_neg (by omega), if_pos h]
theorem getP_2s1 (c0 : UInt8) (h : lenB (c0.toNat : Int) = 2) : getP [c0] = badG := by
  unfold getP
  dsimp only
  rw [if_neg (by omega), if_pos h]
theorem getP_3 (c0 c1 c2 : UInt8) (rest : List UInt8) (h : lenB (c0.toNat : Int) = 3) : getP (c0 :: c1 :: c2 :: rest) = (if cont c1 then if cont c2 then finG 3 (((c0.toNat : Int) % 16 * 64 + low c1) * 64 + low c2) else badG else badG) := by
  unfold getP
  dsimp only
  rw [if_neg (by omega), if_neg (by omega), if_pos h]
theorem getP_3s1 (c0 : UInt8) (h : lenB (c0.toNat : Int) = 3) : getP [c0] = badG := by
  unfold getP
  dsimp only
  rw [if_neg (by omega), if_neg (by omega), if_pos h]
theorem getP_3s2 (c0 c1 : UInt8) (h : lenB (c0.toNat : Int) = 3) : getP [c0, c1] = badG := by
  unfold getP
  dsimp only
  rw [if_neg (by omega), if_neg (by omega), if_pos h]
theorem getP_4 (c0 c1 c2 c3 : UInt8) (rest : List UInt8) (h : lenB (c0.toNat : Int) = 4) : getP (c0 :: c1 :: c2 :: c3 :: rest) = (if cont c1 then if cont c2 then if cont c3 then finG 4 ((((c0.toNat : Int) % 8 * 64 + low c1) * 64 + low c2) * 64 + low c3) else badG else badG else badG) := by
  unfold getP
  dsimp only
  rw [if_neg (by omega), if_neg (by omega), if_neg (by omega), if_pos h]
theorem getP_4s1 (c0 : UInt8) (h : lenB (c0.toNat : Int) = 4) : getP [c0] = badG := by
  unfold getP
  dsimp only
  rw [if_neg (by omega), if_neg (by omega), if_neg (by omega), if_pos h]
theorem getP_4s2 (c0 c1 : UInt8) (h : lenB (c0.toNat : Int) = 4) : getP [c0, c1] = badG := by
  unfold getP
  dsimp only
  rw [if_neg (by omega), if_neg (by omega), if_neg (by omega), if_pos h]
theorem getP_4s3 (c0 c1 c2 : UInt8) (h : lenB (c0.toNat : Int) = 4) : getP [c0, c1, c2] = badG := by
  unfold getP
  dsimp only
  rw [if_neg (by omega), if_neg (by omega), if_neg (by omega), if_pos h]
theorem codeGet_any (bs : List UInt8) (A : Option Addr) (n c B : Nat) (w : World) (hr : Rd w B 1 A n (bs.map bV)) (hc : n ≤ c) (hn2 : n ≤ 1000000) :
    Calls Try.prog 45 #[.slice A n c] w (GetTo (getP bs) w) := by
  have hl : bs.length = n := by simpa using hr.1
  rcases Nat.eq_zero_or_pos n with h0 | h0
  · subst h0
    obtain rfl : bs = [] := List.eq_nil_of_length_eq_zero hl
    exact codeGet_nil A c w
  · obtain ⟨b, off, rfl, hb, hcell⟩ := Rd.byte hr h0
    have lt : ∀ c : UInt8, (0 : Int) ≤ (c.toNat : Int) ∧ (c.toNat : Int) < 256 := fun c => ⟨by omega, by have := c.toNat_lt; omega⟩
    obtain ⟨c0, rest, rfl⟩ : ∃ c0 rest, bs = c0 :: rest := by
      cases bs with
      | nil => simp at hl; omega
      | cons c0 rest => exact ⟨c0, rest, rfl⟩
    have d0 : w.cell? ⟨b, off, none⟩ = some (.int .u8 (c0.toNat : Int)) := hcell 0 (by simp)
    rcases lenB_cases (c0.toNat : Int) with ⟨h1, h⟩ | ⟨h1, h2, h⟩ | ⟨h1, h2, h⟩ | ⟨h1, h2, h⟩ | ⟨h1, h2, h⟩ | ⟨h1, h⟩
    · have := codeGet_1 _ b off n c w (lt c0).1 h1 d0 h0 hc hn2
      rwa [getP_one c0 rest h]
    · have := codeGet_0 _ b off n c w h d0 h0 hc hn2
      rwa [getP_zero c0 rest h]
    · rcases rest with _ | ⟨c1, rest⟩
      · have := codeGet_short _ 2 b off n c w h (by simp at hl; omega) (by omega) d0 h0 hc hn2
        rwa [getP_2s1 c0 h]
      · have d1 := hcell 1 (by simp)
        refine codeGet_2 _ (c1.toNat : Int) b off n c w h1 h2 (lt c1).1 (lt c1).2 d0 d1 (by simp at hl; omega) hc hn2 _ ?_
        unfold Hid
        rw [getP_2 c0 c1 rest h]
        rfl
    · rcases rest with _ | ⟨c1, _ | ⟨c2, rest⟩⟩
      · have := codeGet_short _ 3 b off n c w h (by simp at hl; omega) (by omega) d0 h0 hc hn2
        rwa [getP_3s1 c0 h]
      · have := codeGet_short _ 3 b off n c w h (by simp at hl; omega) (by omega) d0 h0 hc hn2
        rwa [getP_3s2 c0 c1 h]
      · have d1 := hcell 1 (by simp)
        have d2 := hcell 2 (by simp)
        refine codeGet_3 _ (c1.toNat : Int) (c2.toNat : Int) b off n c w h1 h2 (lt c1).1 (lt c1).2 (lt c2).1 (lt c2).2 d0 d1 d2 (by simp at hl; omega) hc hn2 _ ?_
        unfold Hid
        rw [getP_3 c0 c1 c2 rest h]
        rfl
    · rcases rest with _ | ⟨c1, _ | ⟨c2, _ | ⟨c3, rest⟩⟩⟩
      · have := codeGet_short _ 4 b off n c w h (by simp at hl; omega) (by omega) d0 h0 hc hn2
        rwa [getP_4s1 c0 h]
      · have := codeGet_short _ 4 b off n c w h (by simp at hl; omega) (by omega) d0 h0 hc hn2
        rwa [getP_4s2 c0 c1 h]
      · have := codeGet_short _ 4 b off n c w h (by simp at hl; omega) (by omega) d0 h0 hc hn2
        rwa [getP_4s3 c0 c1 c2 h]
      · have d1 := hcell 1 (by simp)
        have d2 := hcell 2 (by simp)
        have d3 := hcell 3 (by simp)
        refine codeGet_4 _ (c1.toNat : Int) (c2.toNat : Int) (c3.toNat : Int) b off n c w h1 h2 (lt c1).1 (lt c1).2 (lt c2).1 (lt c2).2 (lt c3).1 (lt c3).2 d0 d1 d2 d3 (by simp at hl; omega) hc hn2 _ ?_
        unfold Hid
        rw [getP_4 c0 c1 c2 c3 rest h]
        rfl
    · have := codeGet_0 _ b off n c w h d0 h0 hc hn2
      rwa [getP_zero c0 rest h]
end Go.Proofs.Ytjfkppbfckgckaa
