/- Package handles: what Lives and Next do. -/
import Derived.Test.YteafeejdekihpaaDoorPlA
namespace Go.Proofs.YteafeejdekihpaaDoor
open Go.RowKit

theorem SH.toOld {W w : World} {L : List (Nat × Obj)} (h : SH W w L) : ∀ y ∈ L, y ∈ old w := fun y hy => mem_old.2 (h.get y hy)

set_option maxHeartbeats 1600000 in
theorem lives_neg {p : Nat} {a g : Int} {w : World} (ha : a < 0) :
    Calls Tryd.prog 20 #[.pointer (some ⟨p, 0, none⟩), .agg #[.int .i64 a, .int .i64 g]] w fun e w' => e = .returned (.bool false) ∧ Below w.heap.size w w' := by
  have d0 : decide (0 ≤ a) = false := decide_eq_false (by omega)
  go_enter Tryd.func20, Tryd.ntmps20
  go_wp2_with fail
  have HS := Lib.hid ((SH.start w).alloc (.cells #[.int .i64 a, .int .i64 g] 42))
  have hne : Nonempty (SHW w ((w.heap.size, .cells #[.int .i64 a, .int .i64 g] 42) :: old w)) := ⟨⟨_, HS.out⟩⟩
  have c0 : ∀ x : SHW w ((w.heap.size, .cells #[.int .i64 a, .int .i64 g] 42) :: old w), x.w.cell? ⟨w.heap.size, 0, none⟩ = some (.int .i64 a) := fun x => x.ok.cell (.head _) rfl
  refine wp_region_sh (by kernel_rfl) (by kernel_rfl) HS.out ?_
  repeat (go_big_quiet_step (fail))
  refine wpQuiet_nil ?_
  rintro ⟨w1, hS1⟩
  dsimp only
  go_wp2_with fail
  go_ret
  exact ⟨rfl, hS1.toBelow (L := [_])⟩

set_option maxHeartbeats 1600000 in
theorem lives_far {W w : World} {L : List (Nat × Obj)} {p : Nat} {q : Pl} {a g : Int} (hH : PlAt W w p q L) (ha : 0 ≤ a) (hb : (q.sl.length : Int) ≤ a) :
    Calls Tryd.prog 20 #[.pointer (some ⟨p, 0, none⟩), .agg #[.int .i64 a, .int .i64 g]] w fun e w' => e = .returned (.bool false) ∧ Below w.heap.size w w' := by
  obtain ⟨_, ⟨st, sf, ok, _, rfl⟩, hS⟩ := hH
  obtain ⟨ao, cp, hv⟩ := rowV_form' ok
  have hm := hS.toOld _ (.head _)
  rw [hv] at hm
  clear hS hv ok
  have d0 : decide (0 ≤ a) = true := decide_eq_true (by omega)
  have d1 : decide (a < (q.sl.length : Int)) = false := decide_eq_false (by omega)
  go_enter Tryd.func20, Tryd.ntmps20
  go_wp2_with fail
  have HS := Lib.hid ((SH.start w).alloc (.cells #[.int .i64 a, .int .i64 g] 42))
  have hne : Nonempty (SHW w ((w.heap.size, .cells #[.int .i64 a, .int .i64 g] 42) :: old w)) := ⟨⟨_, HS.out⟩⟩
  have c0 : ∀ x : SHW w ((w.heap.size, .cells #[.int .i64 a, .int .i64 g] 42) :: old w), x.w.cell? ⟨w.heap.size, 0, none⟩ = some (.int .i64 a) := fun x => x.ok.cell (.head _) rfl
  have c1 : ∀ x : SHW w ((w.heap.size, .cells #[.int .i64 a, .int .i64 g] 42) :: old w), x.w.cell? ⟨p, 0, none⟩ = some (.slice ao q.sl.length cp) := fun x => x.ok.cell (.tail _ hm) rfl
  refine wp_region_sh (by kernel_rfl) (by kernel_rfl) HS.out ?_
  repeat (go_big_quiet_step (fail))
  refine wpQuiet_nil ?_
  rintro ⟨w1, hS1⟩
  dsimp only
  go_wp2_with fail
  go_ret
  exact ⟨rfl, hS1.toBelow (L := [_])⟩

set_option maxHeartbeats 1600000 in
theorem lives_in {W w : World} {L : List (Nat × Obj)} {p : Nat} {q : Pl} {i : Nat} {g g' : Int} {l : Bool} (hH : PlAt W w p q L) (hi : q.sl[i]? = some (g', l)) :
    Calls Tryd.prog 20 #[.pointer (some ⟨p, 0, none⟩), .agg #[.int .i64 i, .int .i64 g]] w fun e w' => e = .returned (.bool (decide (g' = g) && decide (l = true))) ∧ Below w.heap.size w w' := by
  obtain ⟨_, ⟨st, sf, ok, _, rfl⟩, hS⟩ := hH
  have hlt : i < q.sl.length := (List.getElem?_eq_some_iff.1 hi).1
  cases st with
  | none => rw [ok.1] at hlt; omega
  | some t =>
    obtain ⟨r, cap, sp⟩ := t
    have hm := hS.toOld _ (.head _)
    have hr := hS.toOld _ (.tail _ (.head _))
    have hle := ok.2.2.1
    have hse := slotEq
    simp only [rowV] at hm
    clear hS ok
    have e0 := flatS_get0 (sp := sp) hi
    have e1 := flatS_get1 (sp := sp) hi
    go_enter Tryd.func20, Tryd.ntmps20
    go_wp2_with fail
    have HS := Lib.hid ((SH.start w).alloc (.cells #[.int .i64 i, .int .i64 g] 42))
    have hne : Nonempty (SHW w ((w.heap.size, .cells #[.int .i64 i, .int .i64 g] 42) :: old w)) := ⟨⟨_, HS.out⟩⟩
    have c0 : ∀ x : SHW w ((w.heap.size, .cells #[.int .i64 i, .int .i64 g] 42) :: old w), x.w.cell? ⟨w.heap.size, 0, none⟩ = some (.int .i64 i) := fun x => x.ok.cell (.head _) rfl
    have c0' : ∀ x : SHW w ((w.heap.size, .cells #[.int .i64 i, .int .i64 g] 42) :: old w), x.w.cell? ⟨w.heap.size, 1, none⟩ = some (.int .i64 g) := fun x => x.ok.cell (.head _) rfl
    have c1 : ∀ x : SHW w ((w.heap.size, .cells #[.int .i64 i, .int .i64 g] 42) :: old w), x.w.cell? ⟨p, 0, none⟩ = some (.slice (some ⟨r, 0, none⟩) q.sl.length cap) := fun x => x.ok.cell (.tail _ hm) rfl
    have c2 : ∀ x : SHW w ((w.heap.size, .cells #[.int .i64 i, .int .i64 g] 42) :: old w), x.w.cell? ⟨r, i * 2, none⟩ = some (.int .i64 g') := fun x => x.ok.cell (.tail _ hr) e0
    have c3 : ∀ x : SHW w ((w.heap.size, .cells #[.int .i64 i, .int .i64 g] 42) :: old w), x.w.cell? ⟨r, i * 2 + 1, none⟩ = some (.bool l) := fun x => x.ok.cell (.tail _ hr) e1
    clear e0 e1 hm hr hi
    refine wp_region_sh (by kernel_rfl) (by kernel_rfl) HS.out ?_
    repeat (go_big_quiet_step (fail))
    refine wpQuiet_nil ?_
    rintro ⟨w1, hS1⟩
    dsimp only
    go_wp2_with fail
    go_ret
    refine ⟨?_, hS1.toBelow (L := [_])⟩
    show Ending.returned (.bool _) = _
    simp
end Go.Proofs.YteafeejdekihpaaDoor
