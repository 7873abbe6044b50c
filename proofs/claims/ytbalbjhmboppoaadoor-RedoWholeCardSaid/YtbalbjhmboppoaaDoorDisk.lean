/-
  PLAIN LEAN: the disk of layer 5, as a state.
  No condition.
-/
import Derived.Test.YtbalbjhmboppoaaDoorMath
import Derived.RowKit
namespace Go.Proofs.YtbalbjhmboppoaaDoor
open Go.RowKit

/-- A write: its sector, its bytes. -/
abbrev PutM := Int × Bs
structure DiskS where
  lies : List Bs
  cache : List PutM
  on : Bool
  armed : Bool
  left : Int
  steps : Int

namespace DiskS
def new (n : Nat) : DiskS := ⟨List.replicate n (zeros 256), [], true, false, 0, 0⟩
def sectors (D : DiskS) : Int := D.lies.length
/-- One step, if there is power for it. -/
def stepS (D : DiskS) : DiskS × Int :=
  if D.on = false then (D, 14)
  else if D.armed = true ∧ D.left = 0 then ({ D with on := false }, 14)
  else ({ D with left := if D.armed then D.left - 1 else D.left, steps := wrap64 (D.steps + 1) }, 0)
def lookup (c : List PutM) (at_ : Int) : Option Bs := (c.reverse.find? fun p => p.1 == at_).map (·.2)
def readS (D : DiskS) (at_ : Int) : Bs × Int :=
  if at_ < 0 ∨ D.sectors ≤ at_ then ([], 1)
  else if D.on = false then ([], 14)
  else (match lookup D.cache at_ with | some s => s | none => D.lies.getD at_.toNat [], 0)
def writeS (D : DiskS) (at_ : Int) (s : Bs) : DiskS × Int :=
  if at_ < 0 ∨ D.sectors ≤ at_ ∨ s.length ≠ 256 then (D, 1)
  else if D.stepS.2 = 0 then ({ D.stepS.1 with cache := D.stepS.1.cache ++ [(at_, s)] }, 0) else D.stepS
/-- The cache's writes that stay (those of the list 'stays') are laid; it is empty then. -/
def layAll (lies : List Bs) : List PutM → List Bool → List Bs
  | [], _ => lies
  | p :: c, stays => layAll (if stays.headD false then lies.set p.1.toNat p.2 else lies) c stays.tail
theorem layAll_snoc (p : PutM) : ∀ (c : List PutM) (lies : List Bs) (stays : List Bool), layAll lies (c ++ [p]) stays = if stays.getD c.length false then (layAll lies c stays).set p.1.toNat p.2 else layAll lies c stays
  | [], lies, stays => by cases stays <;> simp [layAll]
  | q :: c, lies, stays => by
    simp only [List.cons_append, layAll, layAll_snoc p c, List.length_cons]
    cases stays <;> simp
theorem layAll_length : ∀ (c : List PutM) (lies : List Bs) (stays : List Bool), (layAll lies c stays).length = lies.length
  | [], lies, stays => rfl
  | p :: c, lies, stays => by
    simp only [layAll, layAll_length c]
    split <;> simp
def settle (D : DiskS) (stays : List Bool) : DiskS := { D with lies := layAll D.lies D.cache stays, cache := [] }
def flushS (D : DiskS) : DiskS × Int :=
  if D.sectors = 0 then (D, 1)
  else if D.stepS.2 = 0 then (D.stepS.1.settle (D.stepS.1.cache.map fun _ => true), 0) else D.stepS
def crashS (D : DiskS) (picks : List Int) : DiskS :=
  if D.sectors = 0 then D
  else { D.settle (picks.map fun n => decide (n.tmod 2 ≠ 0)) with on := true, armed := false }
def armS (D : DiskS) (n : Int) : DiskS := { D with armed := true, left := max n 0 }
/-- What holds of each disk: numbers in range, sectors of 256 bytes, the cache's sectors are there. -/
structure Ok (D : DiskS) : Prop where
  pos : 1 ≤ D.lies.length
  most : D.lies.length ≤ 65536
  left0 : 0 ≤ D.left
  left1 : D.left ≤ 9223372036854775807
  steps0 : -9223372036854775808 ≤ D.steps
  steps1 : D.steps ≤ 9223372036854775807
  size : ∀ s ∈ D.lies, s.length = 256
  cache : ∀ p ∈ D.cache, 0 ≤ p.1 ∧ p.1 < D.lies.length ∧ p.2.length = 256
  room : D.cache.length ≤ 1099511627776
end DiskS

end Go.Proofs.YtbalbjhmboppoaaDoor
