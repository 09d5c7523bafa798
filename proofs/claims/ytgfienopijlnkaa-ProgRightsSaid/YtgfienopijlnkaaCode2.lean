/-
  Contracts of code.Put and of reedbedref01.Put; no condition beyond those that each theorem states.
-/
import Derived.Test.YtgfienopijlnkaaCode1
namespace Go.Proofs.Ytgfienopijlnkaa
open Go.RowKit Go.Rb

theorem info5 : (Try.prog.info? 5).map (fun i => (i.zero, i.size, i.bytes)) = some (some (.int .u8 0), 1, 1) := by kernel_rfl

def bV (c : UInt8) : Value := .int .u8 (c.toNat : Int)
/-- A byte of a number. -/
def by_ (n : Int) : UInt8 := UInt8.ofNat n.toNat
theorem bV_by (n : Int) (h0 : 0 ≤ n) (h1 : n < 256) : bV (by_ n) = .int .u8 n := by
  unfold bV by_
  have : (UInt8.ofNat n.toNat).toNat = n.toNat := by
    simp only [UInt8.toNat_ofNat']
    omega
  rw [this]
  congr 1
  omega

/-- The octets of a code point. -/
def put2 (r : Int) : List UInt8 := [by_ (192 + r / 64), by_ (128 + r % 64)]
def put3 (r : Int) : List UInt8 := [by_ (224 + r / 4096), by_ (128 + r / 64 % 64), by_ (128 + r % 64)]
def put4 (r : Int) : List UInt8 := [by_ (240 + r / 262144), by_ (128 + r / 4096 % 64), by_ (128 + r / 64 % 64), by_ (128 + r % 64)]
def putV (r : Int) : List UInt8 := if r < 128 then [by_ r] else if r < 2048 then put2 r else if r < 65536 then put3 r else put4 r
def putL (r : Int) : List UInt8 := putV (if isB r = true then r else 65533)

/-- A new slice of octets: its own, all of it new. -/
def NewB (w w' : World) (v : Value) (bs : List UInt8) : Prop :=
  Own w' 5 1 v bs.length (bs.map bV) ∧ Below w.heap.size w w' ∧ ∀ k, v.ownBlock = some k → w.heap.size ≤ k
def RetNewB (w : World) (bs : List UInt8) (e : Ending) (w' : World) : Prop := ∃ v, e = .returned v ∧ NewB w w' v bs

end Go.Proofs.Ytgfienopijlnkaa
