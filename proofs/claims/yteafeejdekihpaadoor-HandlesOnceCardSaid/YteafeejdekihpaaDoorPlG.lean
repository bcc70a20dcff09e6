/- The laws on handles: the chapter's example. -/
import Derived.Test.YteafeejdekihpaaDoorPlF
import Derived.Test.YteafeejdekihpaaDoorPlM
namespace Go.Proofs.YteafeejdekihpaaDoor
open Go.RowKit

def kvH (e : Int × Int) : Value := .agg #[.int .i64 e.1, .int .i64 e.2]
theorem handleEqual (w : World) (a b : Int × Int) : (Op.equal 42 (kvH a) (kvH b)).run Tryd.prog w = .ok (decide (a = b)) w := by
  obtain ⟨a1, a2⟩ := a
  obtain ⟨b1, b2⟩ := b
  have hp : Tryd.prog.stoodInHeld 42 = false := by kernel_rfl
  have := run_equalIn_struct (P := Tryd.prog) w 9999 42 #[.int .i64 a1, .int .i64 a2] #[.int .i64 b1, .int .i64 b2] (by simp [Program.fieldsOf, Tryd.underlying42]) hp
  show (Op.equalIn (9999 + 1) _ _ _).run _ _ = _
  simp only [kvH]
  rw [this]
  simp [go_sem, Program.fieldsOf, Tryd.underlying42]
  by_cases h1 : a1 = b1 <;> by_cases h2 : a2 = b2 <;> simp [h1, h2]
theorem handleKey : KeyOf Tryd.prog 42 kvH :=
  KeyOf.of_eq (fun w em k => by kernel_rfl) (fun w k => by simp [Instr.keyThatStays, Instr.sameBits, kvH]) Tryd.underlying42 handleEqual
theorem handleEq (w : World) (a b c d : Int) : (binOp .eql 42 (.agg #[.int .i64 a, .int .i64 b]) (.agg #[.int .i64 c, .int .i64 d])).run Tryd.prog w = .ok (.bool (decide (a = c) && decide (b = d))) w := by
  have e := handleEqual w (a, b) (c, d)
  simp only [kvH] at e
  simp only [binOp]
  simp [e]

set_option maxHeartbeats 1600000 in
theorem alive04 (w : World) : Calls Tryd.prog 15 #[] w fun e w' => e = .returned (.bool true) ∧ Below w.heap.size w w' := by
  have hq : Tryd.prog.stoodInHeld 42 = false := by kernel_rfl
  have heq := handleEq
  go_enter Tryd.func15, Tryd.ntmps15
  go_wp2_with fail
  refine (plNew_any (SH.start w)).mono ?_
  rintro e w1 ⟨p, rfl, hH1⟩
  have HH1 := Lib.hid hH1
  clear hH1
  go_wp2_with fail
  refine (take_new HH1.out rfl (by decide) (by decide) (by decide)).mono ?_
  rintro e w2 ⟨rfl, hH2⟩
  have HH2 := Lib.hid (hH2.alloc (.cells #[.int .i64 0, .int .i64 1] 42))
  clear hH2
  go_wp2_with fail
  refine (take_new HH2.out rfl (by decide) (by decide) (by decide)).mono ?_
  rintro e w3 ⟨rfl, hH3⟩
  have HH3 := Lib.hid (hH3.alloc (.cells #[.int .i64 1, .int .i64 1] 42))
  have a0 : w3.cell? ⟨w2.heap.size, 0, none⟩ = some (.int .i64 0) := hH3.cell (.head _) rfl
  have a1 : w3.cell? ⟨w2.heap.size, 1, none⟩ = some (.int .i64 1) := hH3.cell (.head _) rfl
  have la : w2.heap.size < w3.heap.size := hH3.lt (.head _)
  clear hH3
  go_wp2_with fail
  refine (free_ok (i := 0) (gen := 1) HH3.out rfl (by decide) (by decide) (by decide) (by decide) (by decide)).mono ?_
  rintro e w4 ⟨rfl, hH4⟩
  have HH4 := Lib.hid hH4
  clear hH4
  go_wp2_with fail
  refine (take_free (fs := []) (i := 0) (gen := 2) (l := false) HH4.out rfl rfl (by decide) (by decide) (by decide)).mono ?_
  rintro e w5 ⟨rfl, hH5⟩
  have c0 : w5.cell? ⟨w2.heap.size, 0, none⟩ = some (.int .i64 0) := hH5.cell (.tail _ (.head _)) rfl
  have c1 : w5.cell? ⟨w2.heap.size, 1, none⟩ = some (.int .i64 1) := hH5.cell (.tail _ (.head _)) rfl
  have d0 : w5.cell? ⟨w3.heap.size, 0, none⟩ = some (.int .i64 1) := hH5.cell (.head _) rfl
  have d1 : w5.cell? ⟨w3.heap.size, 1, none⟩ = some (.int .i64 1) := hH5.cell (.head _) rfl
  have lc : w2.heap.size < w5.heap.size := hH5.lt (.tail _ (.head _))
  have ld : w3.heap.size < w5.heap.size := hH5.lt (.head _)
  have HH5 := Lib.hid hH5
  clear hH5 a0 a1
  go_wp2_with fail
  go_ret
  exact ⟨rfl, (HH5.out.alloc _).toBelow (L := [_, _, _])⟩
end Go.Proofs.YteafeejdekihpaaDoor
