/- Right grids: plane.within, plane.Of, tiles.Right, paddockref01.In, paddockref14.Right. -/
import Derived.Test.YtmabanabdoalaaaDoorIn
namespace Go.Proofs.YtmabanabdoalaaaDoor
open Go.RowKit

structure Gr where
  w : Int
  h : Int
  s : Int
  x : Int
  y : Int
def Gr.val (a : Gr) : Value := .agg #[.int .i64 a.w, .int .i64 a.h, .int .i64 a.s, .int .i64 a.x, .int .i64 a.y]
/-- is a grid right? -/
def Gr.ok (a : Gr) : Bool := decide (1 ≤ a.w) && (decide (a.w ≤ 32) && (decide (1 ≤ a.h) && (decide (a.h ≤ 32) && (decide (1 ≤ a.s) && (decide (a.s ≤ 65536) && ((decide (a.x ≤ 1048576) && decide (-1048576 ≤ a.x)) && (decide (a.y ≤ 1048576) && decide (-1048576 ≤ a.y))))))))
theorem gr_ok {a : Gr} (h : a.ok = true) : 1 ≤ a.w ∧ a.w ≤ 32 ∧ 1 ≤ a.h ∧ a.h ≤ 32 ∧ 1 ≤ a.s ∧ a.s ≤ 65536 ∧ -1048576 ≤ a.x ∧ a.x ≤ 1048576 ∧ -1048576 ≤ a.y ∧ a.y ≤ 1048576 := by
  simp only [Gr.ok, Bool.and_eq_true, decide_eq_true_eq] at h
  omega

theorem within_ok (n : Int) (h0 : -1048576 ≤ n) (h1 : n ≤ 1048576) (w : World) :
    Calls Tryd.prog 79 #[.int .i64 n, .int .i64 1048576] w fun e w' => e = .returned (.bool true) ∧ w = w' := by
  go_enter Tryd.func79, Tryd.ntmps79
  go_wp2_with fail
  go_ret
  exact ⟨rfl, rfl⟩

set_option maxHeartbeats 800000 in
theorem planeOf_ok (x y : Int) (h0 : -1048576 ≤ x) (h1 : x ≤ 1048576) (h2 : -1048576 ≤ y) (h3 : y ≤ 1048576) (w : World) :
    Calls Tryd.prog 73 #[.agg #[.int .i64 x, .int .i64 y], .agg #[.int .i64 0, .int .i64 0]] w fun e w' => e = .returned (.tuple #[.agg #[.int .i64 x, .int .i64 y, .int .i64 x, .int .i64 y], .nilIface]) ∧ Below w.heap.size w w' := by
  go_enter Tryd.func73, Tryd.ntmps73
  go_wp2_with fail
  refine wp_loop_rounds 3 ?_
  rw [rounds_succ]
  go_wp2_with (refine (within_ok _ (by assumption) (by assumption) _).mono ?_; rintro e w' ⟨rfl, rfl⟩)
  rw [rounds_succ]
  go_wp2_with (refine (within_ok _ (by assumption) (by assumption) _).mono ?_; rintro e w' ⟨rfl, rfl⟩)
  rw [rounds_succ]
  go_wp2_with fail
  refine wp_loop_rounds 3 ?_
  rw [rounds_succ]
  go_wp2_with fail
  rw [rounds_succ]
  go_wp2_with fail
  rw [rounds_succ]
  go_wp2_with fail
  refine bodyPost_ret (v := .tuple #[.agg #[.int .i64 x, .int .i64 y, .int .i64 x, .int .i64 y], .nilIface]) (by simp [results, Tryd.results73, go_sem]) rfl ⟨rfl, ?_⟩
  exact (((((Below.refl _ _).alloc (Nat.le_refl _) _).alloc (by simp) _).alloc (by simp; omega) _).alloc (by simp; omega) _).alloc (by simp; omega) _

set_option maxHeartbeats 800000 in
theorem tilesRight_ok (a : Gr) (ha : a.ok = true) (w : World) :
    Calls Tryd.prog 56 #[a.val] w fun e w' => e = .returned (.bool true) ∧ Below w.heap.size w w' := by
  have hb := gr_ok ha
  obtain ⟨gw, gh, gs, gx, gy⟩ := a
  simp only at hb
  obtain ⟨b1, b2, b3, b4, b5, b6, b7, b8, b9, b10⟩ := hb
  clear ha
  simp only [Gr.val]
  go_enter Tryd.func56, Tryd.ntmps56
  go_wp2_with fail
  refine (planeOf_ok gx gy b7 b8 b9 b10 _).mono ?_
  rintro e w1 ⟨rfl, hb⟩
  have HS := Lib.hid ((SH.start w).alloc (.cells #[.int .i64 gw, .int .i64 gh, .int .i64 gs, .int .i64 gx, .int .i64 gy] 23) |>.below hb)
  have HB := Lib.hid ((below_alloc w (.cells #[.int .i64 gw, .int .i64 gh, .int .i64 gs, .int .i64 gx, .int .i64 gy] 23)).trans (hb.mono (by simp)))
  have c0 := HS.out.cell (off := 0) (.head _) rfl
  have c1 := HS.out.cell (off := 1) (.head _) rfl
  have c2 := HS.out.cell (off := 2) (.head _) rfl
  have hl := HS.out.lt (.head _)
  clear hb
  go_wp2_with fail
  go_ret
  exact ⟨rfl, HB.out.trans ((below_alloc _ _).mono HB.out.size)⟩

theorem in01_any (n : Int) (w : World) :
    Calls Tryd.prog 58 #[.int .i64 n, .int .i64 1048576] w fun e w' => e = .returned (.bool (decide (n ≤ 1048576) && decide (-1048576 ≤ n))) ∧ w = w' := by
  by_cases h : n ≤ 1048576
  · go_enter Tryd.func58, Tryd.ntmps58
    go_wp2_with fail
    go_ret
    exact ⟨by simp [h], rfl⟩
  · have h2 : decide (n ≤ 1048576) = false := decide_eq_false h
    rw [h2]
    go_enter Tryd.func58, Tryd.ntmps58
    go_wp2_with fail
    go_ret
    exact ⟨by simp, rfl⟩

set_option maxHeartbeats 1600000 in
theorem right14_any (a : Gr) (w : World) :
    Calls Tryd.prog 28 #[a.val] w fun e w' => e = .returned (.bool a.ok) ∧ Below w.heap.size w w' := by
  obtain ⟨R, hR⟩ : ∃ R, R = a.ok := ⟨_, rfl⟩
  rw [← hR]
  obtain ⟨gw, gh, gs, gx, gy⟩ := a
  simp only [Gr.val, Gr.ok] at hR ⊢
  by_cases a0 : 1 ≤ gw
  case neg =>
    have d0 : decide (1 ≤ gw) = false := decide_eq_false a0
    have HR := Lib.hid (show R = false by rw [hR, d0]; simp)
    clear hR
    go_enter Tryd.func28, Tryd.ntmps28
    go_wp2_with fail
    go_ret
    exact ⟨by rw [HR.out]; rfl, below_alloc _ _⟩
  have d0 : decide (1 ≤ gw) = true := decide_eq_true a0
  by_cases a1 : gw ≤ 32
  case neg =>
    have d1 : decide (gw ≤ 32) = false := decide_eq_false a1
    have HR := Lib.hid (show R = false by rw [hR, d0, d1]; simp)
    clear hR
    go_enter Tryd.func28, Tryd.ntmps28
    go_wp2_with fail
    go_ret
    exact ⟨by rw [HR.out]; rfl, below_alloc _ _⟩
  have d1 : decide (gw ≤ 32) = true := decide_eq_true a1
  by_cases a2 : 1 ≤ gh
  case neg =>
    have d2 : decide (1 ≤ gh) = false := decide_eq_false a2
    have HR := Lib.hid (show R = false by rw [hR, d0, d1, d2]; simp)
    clear hR
    go_enter Tryd.func28, Tryd.ntmps28
    go_wp2_with fail
    go_ret
    exact ⟨by rw [HR.out]; rfl, below_alloc _ _⟩
  have d2 : decide (1 ≤ gh) = true := decide_eq_true a2
  by_cases a3 : gh ≤ 32
  case neg =>
    have d3 : decide (gh ≤ 32) = false := decide_eq_false a3
    have HR := Lib.hid (show R = false by rw [hR, d0, d1, d2, d3]; simp)
    clear hR
    go_enter Tryd.func28, Tryd.ntmps28
    go_wp2_with fail
    go_ret
    exact ⟨by rw [HR.out]; rfl, below_alloc _ _⟩
  have d3 : decide (gh ≤ 32) = true := decide_eq_true a3
  by_cases a4 : 1 ≤ gs
  case neg =>
    have d4 : decide (1 ≤ gs) = false := decide_eq_false a4
    have HR := Lib.hid (show R = false by rw [hR, d0, d1, d2, d3, d4]; simp)
    clear hR
    go_enter Tryd.func28, Tryd.ntmps28
    go_wp2_with fail
    go_ret
    exact ⟨by rw [HR.out]; rfl, below_alloc _ _⟩
  have d4 : decide (1 ≤ gs) = true := decide_eq_true a4
  by_cases a5 : gs ≤ 65536
  case neg =>
    have d5 : decide (gs ≤ 65536) = false := decide_eq_false a5
    have HR := Lib.hid (show R = false by rw [hR, d0, d1, d2, d3, d4, d5]; simp)
    clear hR
    go_enter Tryd.func28, Tryd.ntmps28
    go_wp2_with fail
    go_ret
    exact ⟨by rw [HR.out]; rfl, below_alloc _ _⟩
  have d5 : decide (gs ≤ 65536) = true := decide_eq_true a5
  rw [d0, d1, d2, d3, d4, d5] at hR
  simp only [Bool.true_and] at hR
  obtain ⟨bx, hbx⟩ : ∃ b, (decide (gx ≤ 1048576) && decide (-1048576 ≤ gx)) = b := ⟨_, rfl⟩
  obtain ⟨by', hby⟩ : ∃ b, (decide (gy ≤ 1048576) && decide (-1048576 ≤ gy)) = b := ⟨_, rfl⟩
  rw [hbx, hby] at hR
  have HX := Lib.hid (And.intro hbx (And.intro hby hR))
  clear hbx hby hR
  cases bx
  · go_enter Tryd.func28, Tryd.ntmps28
    go_wp2_with fail
    refine (in01_any gx _).mono ?_
    rintro e w1 ⟨rfl, rfl⟩
    rw [HX.out.1]
    go_wp2_with fail
    go_ret
    exact ⟨by rw [HX.out.2.2]; rfl, below_alloc _ _⟩
  · go_enter Tryd.func28, Tryd.ntmps28
    go_wp2_with fail
    refine (in01_any gx _).mono ?_
    rintro e w1 ⟨rfl, rfl⟩
    rw [HX.out.1]
    go_wp2_with fail
    refine (in01_any gy _).mono ?_
    rintro e w1 ⟨rfl, rfl⟩
    rw [HX.out.2.1]
    go_wp2_with fail
    go_ret
    exact ⟨by rw [HX.out.2.2]; rfl, below_alloc _ _⟩
end Go.Proofs.YtmabanabdoalaaaDoor
