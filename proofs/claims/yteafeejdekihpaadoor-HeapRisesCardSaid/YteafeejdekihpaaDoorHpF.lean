/- The law HeapRises: the map's keys. -/
import Derived.Test.YteafeejdekihpaaDoorHpE
import Derived.Test.YteafeejdekihpaaDoorMap
namespace Go.Proofs.YteafeejdekihpaaDoor
open Go.RowKit

def kvE (e : Int × Int) : Value := .agg #[.int .i64 e.1, .int .i64 e.2]
theorem entryEq (w : World) (a b : Int × Int) : (Op.equal 31 (kvE a) (kvE b)).run Tryd.prog w = .ok (decide (a = b)) w := by
  obtain ⟨a1, a2⟩ := a
  obtain ⟨b1, b2⟩ := b
  have hp : Tryd.prog.stoodInHeld 31 = false := by kernel_rfl
  have := run_equalIn_struct (P := Tryd.prog) w 9999 31 #[.int .i64 a1, .int .i64 a2] #[.int .i64 b1, .int .i64 b2] (by simp [Program.fieldsOf, Tryd.underlying31]) hp
  show (Op.equalIn (9999 + 1) _ _ _).run _ _ = _
  simp only [kvE]
  rw [this]
  simp [go_sem, Program.fieldsOf, Tryd.underlying31]
  by_cases h1 : a1 = b1 <;> by_cases h2 : a2 = b2 <;> simp [h1, h2]
theorem entryKey : KeyOf Tryd.prog 31 kvE :=
  KeyOf.of_eq (fun w em k => by kernel_rfl) (fun w k => by simp [Instr.keyThatStays, Instr.sameBits, kvE]) Tryd.underlying31 entryEq
end Go.Proofs.YteafeejdekihpaaDoor
