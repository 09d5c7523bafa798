/-
  The contracts of strings.Cut at a separator of one octet and strings.TrimSuffix; no condition beyond those that each theorem states.
-/
import Derived.Test.YthgjfdjjnkgicaaRegion
import Derived.Lib.Strings
import Derived.Lib.Slices
import Derived.Lib.Walk
import Derived.Lib.Bytealg
import Derived.Deep.CondSized
import Derived.Handy
namespace Go.Proofs.Ythgjfdjjnkgicaa
open Go.RowKit Go.Rb
attribute [local irreducible] Go.wpQuiet

/-- A text of octets. -/
def mk (l : List UInt8) : ByteArray := ⟨l.toArray⟩
theorem mk_size (l : List UInt8) : (mk l).size = l.length := rfl
theorem mk_list (l : List UInt8) : (mk l).data.toList = l := rfl
theorem mk_eta (s : ByteArray) : mk s.data.toList = s := by cases s; rfl
theorem mk_toList (l : List UInt8) : (mk l).toList = l := by rw [Lib.toList_data, mk_list]
theorem mk_inj {a b : List UInt8} (h : mk a = mk b) : a = b := by have := congrArg (fun s => s.data.toList) h; exact this
theorem mk_extract (l : List UInt8) (a b : Nat) : (mk l).extract a b = mk ((l.drop a).take (b - a)) := by rw [Lib.extract_eq, mk_list]; rfl
theorem mk_append (a b : List UInt8) : mk a ++ mk b = mk (a ++ b) := by
  rw [← mk_eta (mk a ++ mk b), ByteArray.data_append, Array.toList_append, mk_list, mk_list]

theorem indexByte_none : ∀ (l : List UInt8) (c : UInt8), c ∉ l → Lib.indexByte l c = -1
  | [], c, h => rfl
  | b :: l, c, h => by
    simp only [List.mem_cons, not_or] at h
    have hb : (b == c) = false := by rw [beq_eq_false_iff_ne]; exact fun e => h.1 e.symm
    simp [Lib.indexByte, hb, indexByte_none l c h.2]
theorem indexByte_at : ∀ (a b : List UInt8) (c : UInt8), c ∉ a → Lib.indexByte (a ++ c :: b) c = (a.length : Int)
  | [], b, c, h => by simp [Lib.indexByte]
  | x :: a, b, c, h => by
    simp only [List.mem_cons, not_or] at h
    have hb : (x == c) = false := by rw [beq_eq_false_iff_ne]; exact fun e => h.1 e.symm
    have ih := indexByte_at a b c h.2
    have hn : ((a.length : Int) == -1) = false := by rw [beq_eq_false_iff_ne]; omega
    simp [Lib.indexByte, hb, ih, hn]
theorem split_mem : ∀ (l : List UInt8) (c : UInt8), c ∈ l → ∃ a b, l = a ++ c :: b ∧ c ∉ a
  | [], c, h => by simp at h
  | x :: l, c, h => by
    by_cases hx : x = c
    · exact ⟨[], l, by rw [hx]; rfl, by simp⟩
    · obtain ⟨a, b, e, hn⟩ := split_mem l c (by simpa [Ne.symm hx] using h)
      exact ⟨x :: a, b, by rw [e]; rfl, by simp [hn, Ne.symm hx]⟩

set_option maxHeartbeats 1000000 in
set_option maxRecDepth 100000 in
theorem indexByte_any (s : ByteArray) (c : Int) (w : World) :
    Calls Try.prog 23 #[.string s, .int .u8 c] w fun e w' => e = .returned (.int .i64 (Lib.indexByte s.data.toList c.toNat.toUInt8)) ∧ w = w' := by
  go_enter Try.func23, Try.ntmps23
  go_wp2
  rw [run_callFunc_extern Try.func27 (by kernel_rfl) (by kernel_rfl) (by kernel_rfl) (e := Extern.BytealgIndexByte.indexByte) (by kernel_rfl), Lib.run_indexByteString]
  simp only [Result.andThen]
  rw [Oper.upon_value]
  go_wp2
  go_ret
  exact ⟨rfl, rfl⟩
set_option maxHeartbeats 2000000 in
set_option maxRecDepth 100000 in
theorem index_any (s : ByteArray) (c : UInt8) (w : World) :
    Calls Try.prog 21 #[.string s, .string ⟨#[c]⟩] w fun e w' => e = .returned (.int .i64 (Lib.indexByte s.data.toList c)) ∧ w = w' := by
  go_enter Try.func21, Try.ntmps21
  go_wp2_with (go_at_call 23; refine (indexByte_any _ _ _).mono ?_; rintro e w' ⟨rfl, rfl⟩)
  · have h : ([c] == s.toList) = true := by assumption
    go_ret
    refine ⟨?_, rfl⟩
    have e : s.data.toList = [c] := by rw [← Lib.toList_data]; exact (beq_iff_eq.1 h).symm
    rw [e]
    simp [Lib.indexByte]
  · go_ret
    exact ⟨rfl, rfl⟩
/-- Cut: at the first one. -/
theorem cutL_any (a b : List UInt8) (c : UInt8) (hc : c ∉ a) (hl : (a ++ c :: b).length ≤ 1000000) (w : World) :
    Calls Try.prog 19 #[.string (mk (a ++ c :: b)), .string ⟨#[c]⟩] w fun e w' => e = .returned (.tuple #[.string (mk a), .string (mk b), .bool true]) ∧ ∃ q, w' = w.drewN q := by
  have HI := Lib.hid (index_any (mk (a ++ c :: b)) c w)
  rw [mk_list, indexByte_at a b c hc] at HI
  have e1 : Hid ((mk (a ++ c :: b)).extract 0 a.length = mk a) := by rw [mk_extract]; show mk _ = _; simp
  have e2 : Hid ((mk (a ++ c :: b)).extract (a.length + 1) (mk (a ++ c :: b)).size = mk b) := by
    rw [mk_extract, mk_size]
    congr 1
    have h1 : (a ++ c :: b).drop (a.length + 1) = b := by
      rw [← List.drop_drop, List.drop_left]; rfl
    rw [h1, List.take_of_length_le]
    simp; omega
  obtain ⟨s, hs⟩ : ∃ s, mk (a ++ c :: b) = s := ⟨_, rfl⟩
  have hz : s.size = a.length + 1 + b.length := by rw [← hs, mk_size]; simp; omega
  have hl' : a.length + 1 + b.length ≤ 1000000 := by simp at hl; omega
  rw [hs] at HI e1 e2 ⊢
  generalize a.length = n at *
  generalize b.length = m at *
  clear hs hl
  go_enter Try.func19, Try.ntmps19
  go_wp2_with (go_at_call 21; refine HI.out.mono ?_; rintro e1 w1 ⟨rfl, rfl⟩)
  go_quiet (fail)
  go_wp2_with fail
  go_returns
  exact ⟨by rw [← e1.out, ← e2.out, hz]; rfl, _, rfl⟩
theorem cutL_none (a : List UInt8) (c : UInt8) (hc : c ∉ a) (w : World) :
    Calls Try.prog 19 #[.string (mk a), .string ⟨#[c]⟩] w fun e w' => e = .returned (.tuple #[.string (mk a), .string ⟨#[]⟩, .bool false]) ∧ w = w' := by
  have HI := Lib.hid (index_any (mk a) c w)
  rw [mk_list, indexByte_none a c hc] at HI
  generalize mk a = s at *
  go_enter Try.func19, Try.ntmps19
  go_wp2_with (go_at_call 21; refine HI.out.mono ?_; rintro e1 w1 ⟨rfl, rfl⟩)
  go_returns
  exact ⟨rfl, rfl⟩
theorem cut_any (a b : List UInt8) (c : UInt8) (hc : c ∉ a) (hl : (a ++ c :: b).length ≤ 1000000) (w : World) :
    Calls Try.prog 15 #[.string (mk (a ++ c :: b)), .string ⟨#[c]⟩] w fun e w' => e = .returned (.tuple #[.string (mk a), .string (mk b), .bool true]) ∧ ∃ q, w' = w.drewN q := by
  have HI := Lib.hid (cutL_any a b c hc hl w)
  generalize mk (a ++ c :: b) = s at *
  generalize mk a = x at *
  generalize mk b = y at *
  go_enter Try.func15, Try.ntmps15
  go_wp2_with (go_at_call 19; refine HI.out.mono ?_; rintro e1 w1 ⟨rfl, q, rfl⟩)
  go_returns
  exact ⟨rfl, _, rfl⟩
theorem cut_none (a : List UInt8) (c : UInt8) (hc : c ∉ a) (w : World) :
    Calls Try.prog 15 #[.string (mk a), .string ⟨#[c]⟩] w fun e w' => e = .returned (.tuple #[.string (mk a), .string ⟨#[]⟩, .bool false]) ∧ w = w' := by
  have HI := Lib.hid (cutL_none a c hc w)
  generalize mk a = s at *
  go_enter Try.func15, Try.ntmps15
  go_wp2_with (go_at_call 19; refine HI.out.mono ?_; rintro e1 w1 ⟨rfl, rfl⟩)
  go_returns
  exact ⟨rfl, rfl⟩
set_option maxHeartbeats 1000000 in
theorem trimSuffix_any (s p : ByteArray) (w : World) (hs : s.size ≤ 9223372036854775807) :
    Calls Try.prog 17 #[.string s, .string p] w fun e w' => e = .returned (.string ⟨(Lib.trimSuffix s.data.toList p.data.toList).toArray⟩) ∧ w = w' := by
  have hlo : p.size ≤ s.size → ((s.size : Int) - (p.size : Int) + 9223372036854775808) % 18446744073709551616 - 9223372036854775808 = ((s.size - p.size : Nat) : Int) := fun _ => by omega
  go_enter Try.func17, Try.ntmps17
  go_wp2
  · have h1 : p.size ≤ s.size := by assumption
    have h2 : ((s.extract (s.size - p.size) s.size).toList == p.toList) = true := by assumption
    go_ret
    refine ⟨?_, rfl⟩
    rw [Lib.trimSuffix_hit s p h1 h2]
    rfl
  · have h2 : ((s.extract (s.size - p.size) s.size).toList == p.toList) = false := by assumption
    go_ret
    refine ⟨?_, rfl⟩
    rw [Lib.trimSuffix_miss s p (by rw [h2]; simp)]
    rfl
  · have h1 : ¬ p.size ≤ s.size := by assumption
    go_ret
    refine ⟨?_, rfl⟩
    rw [Lib.trimSuffix_miss s p (by simp [h1])]
    rfl
/-- Without a return at its end. -/
def trimR (l : List UInt8) : List UInt8 := Lib.trimSuffix l [13]
theorem trim_any (l : List UInt8) (w : World) (hl : l.length ≤ 1000000) :
    Calls Try.prog 17 #[.string (mk l), .string ⟨#[13]⟩] w fun e w' => e = .returned (.string (mk (trimR l))) ∧ w = w' :=
  trimSuffix_any (mk l) ⟨#[13]⟩ w (by rw [mk_size]; omega)
end Go.Proofs.Ythgjfdjjnkgicaa
