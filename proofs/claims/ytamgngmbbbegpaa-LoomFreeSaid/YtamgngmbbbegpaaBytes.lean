/-
  Octets: how they lie in cells, and how they are read as a string; no condition beyond those that each theorem states.
-/
import Derived.Test.YtamgngmbbbegpaaRegion
namespace Go.Proofs.Ytamgngmbbbegpaa
open Go.ChangeShapes Go.WideShapes Go.ChangeAt Go.RowKit Go.Deep Go.Rb

theorem info5 : (Try.prog.info? 5).map (fun i => (i.zero, i.size, i.bytes)) = some (some (.int .u8 0), 1, 1) := by kernel_rfl
def bV (c : UInt8) : Value := .int .u8 (c.toNat : Int)
/-- A byte of a number. -/
def by_ (n : Int) : UInt8 := UInt8.ofNat n.toNat
theorem bV_by (n : Int) (h0 : 0 ≤ n) (h1 : n < 256) : bV (by_ n) = .int .u8 n := by
  unfold bV by_
  have : (UInt8.ofNat n.toNat).toNat = n.toNat := by
    simp only [UInt8.toNat_ofNat']
    omega
  rw [this]
  congr 1
  omega

/-- A new slice of octets: its own, all of it new. -/
def NewB (w w' : World) (v : Value) (bs : List UInt8) : Prop :=
  Own w' 5 1 v bs.length (bs.map bV) ∧ Below w.heap.size w w' ∧ ∀ k, v.ownBlock = some k → w.heap.size ≤ k
def RetNewB (w : World) (bs : List UInt8) (e : Ending) (w' : World) : Prop := ∃ v, e = .returned v ∧ NewB w w' v bs

theorem strOfNums_bytes (bs : List UInt8) : strOfNums (bs.map fun c => (c.toNat : Int)) = ⟨bs.toArray⟩ := by
  unfold strOfNums
  congr 2
  rw [List.map_map]
  conv => rhs; rw [← List.map_id bs]
  apply List.map_congr_left
  intro c _
  simp
/-- string(b) of a slice that reads as octets. -/
theorem conv_rd {W : World} {B n cap : Nat} {A : Option Addr} {bs : List UInt8} (h : Rd W B 1 A n (bs.map bV)) :
    (convert 45 9 (.slice A n cap)).run Try.prog W = .ok (.string ⟨bs.toArray⟩) W := by
  have hl : bs.length = n := by simpa using h.1
  rcases Nat.eq_zero_or_pos n with h0 | h0
  · subst h0
    obtain rfl : bs = [] := List.eq_nil_of_length_eq_zero hl
    cases A with
    | none => exact run_convert_bytes_nil W 45 5 Try.underlying45 Try.underlying5 0 cap 9 Try.underlying9
    | some a => exact run_convert_bytes_back W 45 9 5 a cap [] Try.underlying45 Try.underlying5 Try.underlying9 (fun j hj => absurd hj (by simp))
  · obtain ⟨b, off, rfl, _, hc⟩ := h.2 h0
    have := run_convert_bytes_arg (P := Try.prog) W 45 5 Try.underlying45 Try.underlying5 b off n cap (bs.map fun c => (c.toNat : Int)) (by simpa using hl)
      (fun i hi => by
        rw [hc i (by omega), List.getElem?_map, List.getElem?_eq_getElem (by omega)]
        simp [bV, List.getD, List.getElem?_map, List.getElem?_eq_getElem (show i < bs.length by omega)]) 9 Try.underlying9
    rw [strOfNums_bytes] at this
    exact this
theorem conv_own {W : World} {v : Value} {n : Nat} {bs : List UInt8} (h : Own W 5 1 v n (bs.map bV)) :
    (convert 45 9 v).run Try.prog W = .ok (.string ⟨bs.toArray⟩) W := by
  obtain ⟨A, cap, rfl, _, _⟩ := h.len_
  exact conv_rd h.rd

theorem Own.rd' {w : World} {e : TypeId} {n : Nat} {v : Value} {xs : List Value} (h : Own w e 1 v n xs) : ∃ A cap, v = .slice A n cap ∧ Rd w w.heap.size 1 A n xs ∧ n ≤ cap := by
  obtain ⟨A, cap, rfl, hc, _⟩ := h.len_
  exact ⟨A, cap, rfl, h.rd, hc⟩

theorem conv_later {W1 W2 : World} {v : Value} {n : Nat} {bs : List UInt8} (h : Own W1 5 1 v n (bs.map bV)) (hb : Below W1.heap.size W1 W2) :
    (convert 45 9 v).run Try.prog W2 = .ok (.string ⟨bs.toArray⟩) W2 := conv_own (h.below hb fun _ hk => h.lt hk)
theorem own_later {W1 W2 : World} {v : Value} {n : Nat} {bs : List UInt8} (h : Own W1 5 1 v n (bs.map bV)) (hb : Below W1.heap.size W1 W2) :
    Own W2 5 1 v n (bs.map bV) := h.below hb fun _ hk => h.lt hk
theorem by_toNat (n : Int) (h0 : 0 ≤ n) (h1 : n < 256) : ((by_ n).toNat : Int) = n := by
  unfold by_
  simp only [UInt8.toNat_ofNat']
  omega
theorem by_inj (m n : Int) (h0 : 0 ≤ m) (h1 : m < 256) (h2 : 0 ≤ n) (h3 : n < 256) : by_ m = by_ n ↔ m = n := by
  constructor
  · intro h
    have a := by_toNat m h0 h1
    have b := by_toNat n h2 h3
    rw [h] at a
    omega
  · rintro rfl; rfl
theorem open_bytes {H : Type} {enc : TypeId × Value → H} {w : World} {base : Nat} {spare : Nat → Bool} {held : Bool} {fuel : Nat} {A : Option Addr} {len cap : Nat} {x : DataW H × List MemPlace}
    (h : DataW.trod enc Try.prog w base spare held fuel 45 [.slice A len cap] = some x) :
    ∃ bs : List UInt8, bs.length = len ∧ len ≤ cap ∧ cap ≤ maxLen ∧ Rd w w.heap.size 1 A len (bs.map bV) := by
  obtain ⟨zs, hz, hc, hm, hr, hw⟩ := open_intslice Try.underlying45 Try.underlying5 (by kernel_rfl) h
  refine ⟨zs.map by_, by simpa using hz, hc, hm, ?_⟩
  have : (zs.map by_).map bV = zs.map (Value.int .u8) := by
    rw [List.map_map]
    apply List.map_congr_left
    intro z hzm
    have := hw z hzm
    have hb : 0 ≤ z ∧ z ≤ 255 := by simpa [Lit.wf, IntKind.min, IntKind.max, IntKind.signed, IntKind.bits] using this
    exact bV_by z hb.1 (by omega)
  rw [this]
  exact hr
theorem extract_drop (s : ByteArray) (k : Nat) : (s.extract k s.size).data.toList = s.data.toList.drop k := by
  rw [ByteArray.data_extract, Array.toList_extract]
  unfold List.extract
  exact List.take_of_length_le (by rw [List.length_drop]; simp)
theorem rd_conv (W : World) (s : ByteArray) (cap : Nat) (t : TypeId) (fr : Nat × Nat) : Rd ((W.alloc (.cells (bytesRow s cap) t fr)).drew) (W.heap.size + 1) 1 (some ⟨W.heap.size, 0, none⟩) s.size (s.data.toList.map bV) := by
  refine ⟨by simp, fun _ => ⟨W.heap.size, 0, rfl, by omega, fun j hj => ?_⟩⟩
  have hj' : j < s.size := by omega
  show (W.alloc (.cells (bytesRow s cap) t fr)).cell? ⟨W.heap.size, 0 + j, none⟩ = _
  rw [Nat.zero_add, World.cell?_alloc_mark]
  unfold bytesRow
  rw [Array.getElem?_append_left (by simpa using hj')]
  simp [bV]
  rfl

theorem cat_ (a b : List UInt8) : (⟨a.toArray⟩ : ByteArray) ++ ⟨b.toArray⟩ = ⟨(a ++ b).toArray⟩ := by
  apply ByteArray.ext
  simp [ByteArray.data_append]
theorem by_of (c : UInt8) (n : Int) (h : n = (c.toNat : Int)) : by_ n = c := by
  subst h
  unfold by_
  simp
end Go.Proofs.Ytamgngmbbbegpaa
