/-
  The law CellNotes returns true: its walk; no condition beyond those that each theorem states.
-/
import Derived.Test.YtfadkkodamiohaaNote4
namespace Go.Proofs.Ytfadkkodamiohaa
open Go.RowKit Go.Rb
attribute [local irreducible] Go.wpQuiet

theorem methodErrE (v : Value) (w : World) : (Go.method 211 30 v "Error").run Try.prog w = .ok (33, v) w := by kernel_rfl
theorem methodErrW (v : Value) (w : World) : (Go.method 211 45 v "Error").run Try.prog w = .ok (48, v) w := by kernel_rfl
theorem mk_app (t n : List UInt8) : (⟨⟨t⟩⟩ : ByteArray) ++ ⟨⟨n⟩⟩ = ⟨⟨t ++ n⟩⟩ := by
  apply ByteArray.ext
  simp [ByteArray.data_append]
theorem txt_ns (T n : ByteArray) : (T.toList == (T ++ ⟨#[58, 32]⟩ ++ n).toList) = false := by
  obtain ⟨⟨t⟩⟩ := T
  obtain ⟨⟨n⟩⟩ := n
  rw [mk_app, mk_app, ByteArray.toList_mk, ByteArray.toList_mk, beq_eq_false_iff_ne]
  intro h
  have := congrArg List.length h
  simp at this
theorem txt_sn (T n : ByteArray) : ((T ++ ⟨#[58, 32]⟩ ++ n).toList == T.toList) = false := by
  obtain ⟨⟨t⟩⟩ := T
  obtain ⟨⟨n⟩⟩ := n
  rw [mk_app, mk_app, ByteArray.toList_mk, ByteArray.toList_mk, beq_eq_false_iff_ne]
  intro h
  have := congrArg List.length h
  simp at this
theorem txt_ss (T n m : ByteArray) : ((T ++ ⟨#[58, 32]⟩ ++ n).toList == (T ++ ⟨#[58, 32]⟩ ++ m).toList) = (n.toList == m.toList) := by
  obtain ⟨⟨t⟩⟩ := T
  obtain ⟨⟨n⟩⟩ := n
  obtain ⟨⟨m⟩⟩ := m
  rw [mk_app, mk_app, mk_app, ByteArray.toList_mk, ByteArray.toList_mk, ByteArray.toList_mk, ByteArray.toList_mk, Bool.eq_iff_iff, beq_iff_eq, beq_iff_eq]
  simp
theorem nil_eq {n : ByteArray} (h : n.toList.isEmpty = false) : (([] : List UInt8) == n.toList) = false := by
  rw [beq_eq_false_iff_ne]
  intro e
  rw [← e] at h
  simp at h
theorem eq_nil {n : ByteArray} (h : n.toList.isEmpty = false) : (n.toList == ([] : List UInt8)) = false := by
  rw [beq_eq_false_iff_ne]
  intro e
  rw [e] at h
  simp at h
theorem empty_ {x : ByteArray} (h : x.toList.isEmpty = true) : x = ⟨#[]⟩ := by
  obtain ⟨⟨l⟩⟩ := x
  rw [ByteArray.toList_mk, List.isEmpty_iff] at h
  rw [h]
set_option maxRecDepth 20000 in
set_option maxHeartbeats 1000000 in
theorem notes_any (G : Nat → Int) (a : Int) (hi : a < 9223372036854775808) (na nb : ByteArray) (w : World) (hT : Tab G w) :
    Calls Try.prog 4 #[.int .i64 a, .string na, .string nb] w fun e w' => e = .returned (.bool true) ∧ Below w.heap.size w w' := by
  have HAW := Lib.hid (fun W => awake_any W)
  have HT := Lib.hid hT
  clear hT
  by_cases hl : 200 < na.size
  · have F1 : decide (200 < (na.size : Int)) = true := decide_eq_true (by omega)
    clear hl
    go_enter Try.func4, Try.ntmps4
    go_wp2_with fail
    refine (HAW.out w).mono ?_
    rintro e1 w1 ⟨rfl, hb1⟩
    have HB1 := Lib.hid hb1
    clear hb1
    go_wp2_with fail
    refine (HAW.out w1).mono ?_
    rintro e2 w2 ⟨rfl, hb2⟩
    have HB2 := Lib.hid hb2
    clear hb2
    go_wp2_with fail
    go_ret
    exact ⟨rfl, below_trans HB1.out HB2.out⟩
  have F1 : decide (200 < (na.size : Int)) = false := decide_eq_false (by omega)
  by_cases hm : 200 < nb.size
  · have F2 : decide (200 < (nb.size : Int)) = true := decide_eq_true (by omega)
    clear hl hm
    go_enter Try.func4, Try.ntmps4
    go_wp2_with fail
    refine (HAW.out w).mono ?_
    rintro e1 w1 ⟨rfl, hb1⟩
    have HB1 := Lib.hid hb1
    clear hb1
    go_wp2_with fail
    refine (HAW.out w1).mono ?_
    rintro e2 w2 ⟨rfl, hb2⟩
    have HB2 := Lib.hid hb2
    clear hb2
    go_wp2_with fail
    go_ret
    exact ⟨rfl, below_trans HB1.out HB2.out⟩
  have F2 : decide (200 < (nb.size : Int)) = false := decide_eq_false (by omega)
  cases ha : (a == 0) with
  | true =>
    clear hl hm
    go_enter Try.func4, Try.ntmps4
    go_wp2_with fail
    refine (HAW.out w).mono ?_
    rintro e1 w1 ⟨rfl, hb1⟩
    have HB1 := Lib.hid hb1
    clear hb1
    go_wp2_with fail
    refine (HAW.out w1).mono ?_
    rintro e2 w2 ⟨rfl, hb2⟩
    have HB2 := Lib.hid hb2
    clear hb2
    go_wp2_with fail
    go_ret
    exact ⟨rfl, below_trans HB1.out HB2.out⟩
  | false =>
    have HEE := Lib.hid (fun W hW => error_any G a hi W hW)
    have HEA := Lib.hid (fun p W hW hb => wtext_any G a hi na (by omega) p W hW hb)
    have HEB := Lib.hid (fun p W hW hb => wtext_any G a hi nb (by omega) p W hW hb)
    have HWN := Lib.hid (fun W => wrap_none a W ha)
    have HIE : Hid (∀ W, Calls Try.prog 15 #[eno a, eno a] W fun e w' => e = .returned (.bool true) ∧ w' = W) := fun W => by have := is_eno a a W; rwa [beq_self_eq_true] at this
    have HIW : Hid (∀ p (note : ByteArray) W, Blk W p 42 #[.int .i64 a, .string note] → Calls Try.prog 15 #[wrp p, eno a] W fun e w' => e = .returned (.bool true) ∧ w' = W) := fun p note W hb => by have := is_wrp p a a note W hb; rwa [beq_self_eq_true] at this
    have mE := methodErrE
    have mW := methodErrW
    clear hl hm
    cases hna : na.toList.isEmpty with
    | true =>
      obtain rfl := empty_ hna
      cases hnb : nb.toList.isEmpty with
      | true =>
        obtain rfl := empty_ hnb
        clear HEA HEB HIW hna hnb
        generalize eText G a = X at *
        simp only [eno] at HWN HIE
        go_enter Try.func4, Try.ntmps4
        go_wp2_with fail
        refine (HAW.out w).mono ?_
        rintro e1 w1 ⟨rfl, hb1⟩
        have HB1 := Lib.hid hb1
        clear hb1
        go_wp2_with fail
        refine (HWN.out w1).mono ?_
        rintro e2 w2 ⟨rfl, hw2⟩
        have HB2 : Hid (Below w.heap.size w w2) := (by rw [hw2]; exact HB1.out)
        clear hw2 HB1
        go_wp2_with fail
        refine (HWN.out w2).mono ?_
        rintro e3 w3 ⟨rfl, hw3⟩
        have HB3 : Hid (Below w.heap.size w w3) := (by rw [hw3]; exact HB2.out)
        clear HB2 hw3
        go_wp2_with fail
        refine (HEE.out w3 (HT.out.below HB3.out)).mono ?_
        rintro e4 w4 ⟨rfl, hb4⟩
        have HB4 := Lib.hid (below_trans HB3.out hb4)
        clear hb4 HB3
        go_wp2_with fail
        refine (HEE.out w4 (HT.out.below HB4.out)).mono ?_
        rintro e5 w5 ⟨rfl, hb5⟩
        have HB5 := Lib.hid (below_trans HB4.out hb5)
        clear hb5 HB4
        go_wp2_with fail
        refine (HIE.out w5).mono ?_
        rintro e6 w6 ⟨rfl, rfl⟩
        go_wp2_with fail
        refine (HIE.out _).mono ?_
        rintro e7 w7 ⟨rfl, rfl⟩
        go_wp2_with fail
        go_ret
        exact ⟨rfl, HB5.out⟩

      | false =>
        have HWB := Lib.hid (fun W => wrap_some a nb W ha hnb)
        clear HEA
        have hXY := txt_ns (eText G a) nb
        generalize eText G a ++ ⟨#[58, 32]⟩ ++ nb = Y at *
        generalize eText G a = X at *
        have h45 := nil_eq hnb
        simp only [eno, wrp] at HWN HWB HIE HIW
        go_enter Try.func4, Try.ntmps4
        go_wp2_with fail
        refine (HAW.out w).mono ?_
        rintro e1 w1 ⟨rfl, hb1⟩
        have HB1 := Lib.hid hb1
        clear hb1
        go_wp2_with fail
        refine (HWN.out w1).mono ?_
        rintro e2 w2 ⟨rfl, hw2⟩
        have HB2 : Hid (Below w.heap.size w w2) := (by rw [hw2]; exact HB1.out)
        clear hw2 HB1
        go_wp2_with fail
        refine (HWB.out w2).mono ?_
        rintro e3 w3 ⟨rfl, hk3, hb3⟩
        have HB3 := Lib.hid (below_trans HB2.out hb3)
        have HL3 := Lib.hid hk3
        clear hk3
        clear HB2 hb3
        generalize w2.heap.size = q at *
        go_wp2_with fail
        refine (HEE.out w3 (HT.out.below HB3.out)).mono ?_
        rintro e4 w4 ⟨rfl, hb4⟩
        have HB4 := Lib.hid (below_trans HB3.out hb4)
        have HL4 := Lib.hid (HL3.out.below hb4 HL3.out.lt)
        clear HL3
        clear hb4 HB3
        go_wp2_with fail
        refine (HEB.out q w4 (HT.out.below HB4.out) HL4.out).mono ?_
        rintro e5 w5 ⟨rfl, hb5⟩
        have HB5 := Lib.hid (below_trans HB4.out hb5)
        have HL5 := Lib.hid (HL4.out.below hb5 HL4.out.lt)
        clear HL4
        clear hb5 HB4
        go_wp2_with fail
        refine (HIE.out w5).mono ?_
        rintro e6 w6 ⟨rfl, rfl⟩
        go_wp2_with fail
        refine (HIW.out q nb _ HL5.out).mono ?_
        rintro e7 w7 ⟨rfl, rfl⟩
        go_wp2_with fail
        go_ret
        exact ⟨rfl, HB5.out⟩

    | false =>
      have HWA := Lib.hid (fun W => wrap_some a na W ha hna)
      cases hnb : nb.toList.isEmpty with
      | true =>
        obtain rfl := empty_ hnb
        clear HEB
        have hXY := txt_sn (eText G a) na
        generalize eText G a ++ ⟨#[58, 32]⟩ ++ na = X at *
        generalize eText G a = Y at *
        have h45 := eq_nil hna
        simp only [eno, wrp] at HWN HWA HIE HIW
        go_enter Try.func4, Try.ntmps4
        go_wp2_with fail
        refine (HAW.out w).mono ?_
        rintro e1 w1 ⟨rfl, hb1⟩
        have HB1 := Lib.hid hb1
        clear hb1
        go_wp2_with fail
        refine (HWA.out w1).mono ?_
        rintro e2 w2 ⟨rfl, hk2, hb2⟩
        have HB2 := Lib.hid (below_trans HB1.out hb2)
        have HK2 := Lib.hid hk2
        clear hk2 hb2 HB1
        generalize w1.heap.size = p at *
        go_wp2_with fail
        refine (HWN.out w2).mono ?_
        rintro e3 w3 ⟨rfl, hw3⟩
        have HB3 : Hid (Below w.heap.size w w3) := (by rw [hw3]; exact HB2.out)
        have HK3 : Hid (Blk w3 p 42 #[.int .i64 a, .string na]) := (by rw [hw3]; exact HK2.out)
        clear HK2
        clear HB2 hw3
        go_wp2_with fail
        refine (HEA.out p w3 (HT.out.below HB3.out) HK3.out).mono ?_
        rintro e4 w4 ⟨rfl, hb4⟩
        have HB4 := Lib.hid (below_trans HB3.out hb4)
        have HK4 := Lib.hid (HK3.out.below hb4 HK3.out.lt)
        clear HK3
        clear hb4 HB3
        go_wp2_with fail
        refine (HEE.out w4 (HT.out.below HB4.out)).mono ?_
        rintro e5 w5 ⟨rfl, hb5⟩
        have HB5 := Lib.hid (below_trans HB4.out hb5)
        have HK5 := Lib.hid (HK4.out.below hb5 HK4.out.lt)
        clear HK4
        clear hb5 HB4
        go_wp2_with fail
        refine (HIW.out p na w5 HK5.out).mono ?_
        rintro e6 w6 ⟨rfl, rfl⟩
        go_wp2_with fail
        refine (HIE.out _).mono ?_
        rintro e7 w7 ⟨rfl, rfl⟩
        go_wp2_with fail
        go_ret
        exact ⟨rfl, HB5.out⟩

      | false =>
        have HWB := Lib.hid (fun W => wrap_some a nb W ha hnb)
        have hXY := txt_ss (eText G a) na nb
        generalize eText G a ++ ⟨#[58, 32]⟩ ++ na = X at *
        generalize eText G a ++ ⟨#[58, 32]⟩ ++ nb = Y at *
        generalize h45 : (na.toList == nb.toList) = r at *
        simp only [eno, wrp] at HWN HWA HWB HIE HIW
        go_enter Try.func4, Try.ntmps4
        go_wp2_with fail
        refine (HAW.out w).mono ?_
        rintro e1 w1 ⟨rfl, hb1⟩
        have HB1 := Lib.hid hb1
        clear hb1
        go_wp2_with fail
        refine (HWA.out w1).mono ?_
        rintro e2 w2 ⟨rfl, hk2, hb2⟩
        have HB2 := Lib.hid (below_trans HB1.out hb2)
        have HK2 := Lib.hid hk2
        clear hk2 hb2 HB1
        generalize w1.heap.size = p at *
        go_wp2_with fail
        refine (HWB.out w2).mono ?_
        rintro e3 w3 ⟨rfl, hk3, hb3⟩
        have HB3 := Lib.hid (below_trans HB2.out hb3)
        have HL3 := Lib.hid hk3
        clear hk3
        have HK3 := Lib.hid (HK2.out.below hb3 HK2.out.lt)
        clear HK2
        clear HB2 hb3
        generalize w2.heap.size = q at *
        go_wp2_with fail
        refine (HEA.out p w3 (HT.out.below HB3.out) HK3.out).mono ?_
        rintro e4 w4 ⟨rfl, hb4⟩
        have HB4 := Lib.hid (below_trans HB3.out hb4)
        have HK4 := Lib.hid (HK3.out.below hb4 HK3.out.lt)
        clear HK3
        have HL4 := Lib.hid (HL3.out.below hb4 HL3.out.lt)
        clear HL3
        clear hb4 HB3
        go_wp2_with fail
        refine (HEB.out q w4 (HT.out.below HB4.out) HL4.out).mono ?_
        rintro e5 w5 ⟨rfl, hb5⟩
        have HB5 := Lib.hid (below_trans HB4.out hb5)
        have HK5 := Lib.hid (HK4.out.below hb5 HK4.out.lt)
        clear HK4
        have HL5 := Lib.hid (HL4.out.below hb5 HL4.out.lt)
        clear HL4
        clear hb5 HB4
        go_wp2_with fail
        refine (HIW.out p na w5 HK5.out).mono ?_
        rintro e6 w6 ⟨rfl, rfl⟩
        go_wp2_with fail
        refine (HIW.out q nb _ HL5.out).mono ?_
        rintro e7 w7 ⟨rfl, rfl⟩
        go_wp2_with fail
        go_ret
        exact ⟨rfl, HB5.out⟩

end Go.Proofs.Ytfadkkodamiohaa
