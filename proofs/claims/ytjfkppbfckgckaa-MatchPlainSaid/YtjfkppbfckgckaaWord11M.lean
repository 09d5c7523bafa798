/-
  The law's word, and what made answers of a word of letters; no condition beyond those that each theorem states.
-/
import Derived.Test.YtjfkppbfckgckaaLetPM
set_option linter.unusedVariables false
set_option linter.unusedSimpArgs false
namespace Go.Proofs.Ytjfkppbfckgckaa
set_option maxRecDepth 20000
open Go.RowKit Go.Rb
attribute [local irreducible] Go.wpQuiet

theorem made_ch {l : List Bool} (h0 : 0 < l.length) (h : l.length ≤ 20) (w : World) : Calls Try.prog 9 #[.string (mkS (wB l))] w fun e w' => Below w.heap.size w w' ∧ ∃ v, e = .returned v ∧ ProgO w' v (prL l) := by
  have hok := ndW_ok h
  have hpl : nodeP (ndW l) [] ++ [(⟨0, [], 0, 0⟩ : Ins)] = prL l := by rw [nodeP_ndW h0]; rfl
  have hne : l.map ndL ≠ [] := fun e => by rw [List.map_eq_nil_iff] at e; rw [e] at h0; simp at h0
  have hsz : (mkS (wB l)).size ≤ 200 := by rw [mkS_size, wB_len]; omega
  have hpar : Calls Try.prog 22 #[.string (mkS (wB l))] w fun e w' => Below w.heap.size w w' ∧ ((∃ v nd, nd = ndW l ∧ e = .returned (.tuple #[v, .int .i64 0]) ∧ NdV w' (fun k => w.heap.size ≤ k) v nd) ∨ ((∃ k : Int, k ≠ 0 ∧ e = .returned (.tuple #[zeroNd, .int .i64 k])) ∧ False)) :=
    (parse_any lexer1 (mkS (wB l)) (fun rs hrs y hy => by
      rw [pts_ch] at hrs
      obtain rfl := Option.some.inj hrs
      obtain ⟨b, -, rfl⟩ := List.mem_map.1 hy
      cases b <;> exact ⟨by decide, by decide⟩) w).mono fun e w' hr => by
      obtain ⟨v, h1, h2, h3⟩ := hr.fn (l := l.map tkL) (nd := ndW l) (fun x p h => h) hsz (pts_ch l) (fun f hf => by rw [lexF_ch l f [] (by rw [List.length_map] at hf; exact hf), List.nil_append]) (by
        rw [treeL_ch l l.length 0 _ [] false (by omega) (by omega) (by rw [List.length_map]; omega), List.nil_append, List.drop_zero]; rfl) (fun l x h => (h.bd lexer1).1)
      exact ⟨h2, .inl ⟨v, _, rfl, h1, h3⟩⟩
  refine (made_any (P := fun nd => nd = ndW l) (Q := False) (by rintro nd rfl; exact okt_of hok) hpar).mono ?_
  rintro e w' ⟨hb, ⟨-, h | ⟨nd, rfl, h2⟩⟩ | ⟨v, nd, rfl, -, h1, h2, h3⟩⟩
  · exact absurd h id
  · exact absurd (ndW_small h0 h) h2
  · rw [hpl] at h2
    exact ⟨hb, v, h1, h2⟩
theorem prL_right {l : List Bool} (h0 : 0 < l.length) (h : l.length ≤ 20) : RightI (prL l) ∧ ∀ (i : Nat) (t : Ins), (prL l)[i]? = some t → t.set.length ≤ 1000 := by
  have hr := nodeP_right (ndW_ok h)
  rw [nodeP_ndW h0] at hr
  exact hr
theorem word_snoc (l : List Bool) (i : Nat) (b : Bool) (h : l[i]? = some b) : mkS (wB (l.take (i + 1))) = mkS (wB (l.take i)) ++ mkS [chB b] := by
  have : wB (l.take (i + 1)) = wB (l.take i) ++ [chB b] := by
    unfold wB
    rw [List.take_add_one, h, List.map_append]
    rfl
  rw [this]
  apply ByteArray.ext
  rw [ByteArray.data_append]
  simp [mkS]
set_option maxHeartbeats 1000000 in
theorem word_any (bs : List Bool) (A : Option Addr) (n c B : Nat) (w : World) (hr : Rd w B 1 A n (bs.map Value.bool)) (hB : B ≤ w.heap.size) (hc : n ≤ c) (hn : n ≤ 1000) :
    Calls Try.prog 14 #[.slice A n c] w fun e w' => e = .returned (.string (mkS (wB bs))) ∧ w' = w := by
  have hl : bs.length = n := by simpa using hr.1
  have HL := Lib.hid hl
  have HR := Lib.hid hr
  clear hl hr
  go_enter Try.func14, Try.ntmps14
  go_wp2_with fail
  go_loopw [3, 4] (fun v3 v4 wr => ∃ (i : Nat) (x : ByteArray), v4 = .int .i64 (i : Int) ∧ v3 = .string x ∧ i ≤ n ∧ x.size = i ∧ Hid (x = mkS (wB (bs.take i))) ∧ wr = w) (fun _ v4 _ => n - (intOf v4).toNat)
  case atStart => exact ⟨0, ⟨#[]⟩, rfl, rfl, by omega, rfl, rfl, rfl⟩
  case round =>
  obtain ⟨i, x, rfl, rfl, hin, hxi, HX, rfl⟩ := hrel
  by_cases hlt : i < n
  · obtain ⟨b, hb⟩ : ∃ b, bs[i]? = some b := ⟨_, List.getElem?_eq_getElem (by rw [HL.out]; exact hlt)⟩
    obtain ⟨ba, off, rfl, hba, hcell⟩ := HR.out.2 (by omega)
    have c1 := hcell i (by omega)
    rw [List.getElem?_map, hb] at c1
    have c2 : wr.cell? ⟨ba, off + i, none⟩ = some (.bool b) := c1
    have hbw : ba < wr.heap.size := by omega
    have hsn := word_snoc bs i b hb
    rw [← HX.out] at hsn
    clear hcell c1
    cases b
    · have hs2 : Hid (x ++ ⟨#[98]⟩ = mkS (wB (bs.take (i + 1)))) := hsn.symm
      clear hsn
      go_wp2_with fail
      go_roundw
      case rel => exact ⟨i + 1, x ++ ⟨#[98]⟩, by go_num, rfl, by omega, by rw [ByteArray.size_append, hxi]; rfl, hs2, by first | rfl | trivial⟩
      case measure => simp [intOf] <;> omega
    · have hs2 : Hid (x ++ ⟨#[97]⟩ = mkS (wB (bs.take (i + 1)))) := hsn.symm
      clear hsn
      go_wp2_with fail
      go_roundw
      case rel => exact ⟨i + 1, x ++ ⟨#[97]⟩, by go_num, rfl, by omega, by rw [ByteArray.size_append, hxi]; rfl, hs2, by first | rfl | trivial⟩
      case measure => simp [intOf] <;> omega
  · have HF : Hid (x = mkS (wB bs)) := by
      have := HX.out
      rw [List.take_of_length_le (by rw [HL.out]; omega)] at this
      exact this
    go_wp2_with fail
    go_ret
    exact ⟨by rw [← HF.out]; rfl, rfl⟩
end Go.Proofs.Ytjfkppbfckgckaa
