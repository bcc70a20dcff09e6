/- The laws JumpJumps and JumpStraight: the walks. -/
import Derived.Test.YtmabanabdoalaaaDoorSj
namespace Go.Proofs.YtmabanabdoalaaaDoor
open Go.RowKit

/-- what the laws ask: a grid, blocked tiles, two tiles -/
def askV (a : Gr) (v : Value) (s t : Int) : Value := .agg #[.int .i64 a.w, .int .i64 a.h, .int .i64 a.s, .int .i64 a.x, .int .i64 a.y, v, .int .i64 s, .int .i64 t]
def askO (a : Gr) (v : Value) (s t : Int) : Obj := .cells #[.int .i64 a.w, .int .i64 a.h, .int .i64 a.s, .int .i64 a.x, .int .i64 a.y, v, .int .i64 s, .int .i64 t] 26 (0, 0)

theorem askCells {W w : World} {L : List (Nat × Obj)} {b : Nat} {a : Gr} {v : Value} {s t : Int} (h : SH W w L) (m : (b, askO a v s t) ∈ L) :
    w.cell? ⟨b, 0, none⟩ = some (.int .i64 a.w) ∧ w.cell? ⟨b, 1, none⟩ = some (.int .i64 a.h) ∧ w.cell? ⟨b, 2, none⟩ = some (.int .i64 a.s) ∧ w.cell? ⟨b, 3, none⟩ = some (.int .i64 a.x) ∧ w.cell? ⟨b, 4, none⟩ = some (.int .i64 a.y) ∧
      w.cell? ⟨b, 5, none⟩ = some v ∧ w.cell? ⟨b, 6, none⟩ = some (.int .i64 s) ∧ w.cell? ⟨b, 7, none⟩ = some (.int .i64 t) :=
  ⟨h.cell m rfl, h.cell m rfl, h.cell m rfl, h.cell m rfl, h.cell m rfl, h.cell m rfl, h.cell m rfl, h.cell m rfl⟩

set_option maxHeartbeats 1600000 in
theorem jumps_any {W : World} (a : Gr) {v : Value} {xs : List Int} (hx : Sl encI 1 (old W) v xs) (s t d : Int) :
    Calls Tryd.prog 3 #[askV a v s t, .int .i64 d] W fun e w' => e = .returned (.bool true) ∧ Below W.heap.size W w' := by
  have HX := Lib.hid hx
  obtain ⟨ao, c, rfl, _, _⟩ := hx
  have HA := Lib.hid ((SH.start W).alloc (askO a (.slice ao xs.length c) s t))
  unfold askO at HA
  unfold askV
  go_enter Tryd.func3, Tryd.ntmps3
  go_wp2_with fail
  refine (alive18 _).mono ?_
  rintro e w1 ⟨rfl, hb⟩
  have HS1 := Lib.hid (HA.out.below hb)
  obtain ⟨c0, c1, c2, c3, c4, c5, c6, c7⟩ := askCells HS1.out (.head _)
  have hl := HS1.out.lt (.head _)
  clear hb
  go_wp2_with fail
  refine (made_any HS1.out a (HX.out.mono (fun x h => .tail _ h))).mono ?_
  rintro e w2 (⟨p, m, g, M, rfl, ok, _, hG, hR, hS2⟩ | ⟨rfl, hS2⟩)
  · have HS2 := Lib.hid hS2
    have HG := Lib.hid (And.intro hG hR)
    obtain ⟨J, hJ⟩ : ∃ J, g.jump s d t = J := ⟨_, rfl⟩
    have HJ := Lib.hid hJ
    have hge := jump_ge (g := g) s d t
    rw [hJ] at hge
    obtain ⟨B, hB⟩ : ∃ B, decide (0 ≤ J) = B := ⟨_, rfl⟩
    have HB := Lib.hid (And.intro hB (show decide (J ≠ -1) = B by rw [← hB, decide_eq_decide]; exact hge))
    clear hB hge
    clear c0 c1 c2 c3 c4 c5 c6 c7 hG hR hJ
    have m0 : (W.heap.size, askO a (.slice ao xs.length c) s t) ∈ M ++ ((W.heap.size, askO a (.slice ao xs.length c) s t) :: old W) := by simp
    obtain ⟨_, _, _, _, _, _, c6, c7⟩ := askCells hS2 m0
    have hl2 := hS2.lt m0
    clear hS2
    go_wp2_with fail
    refine (jump_t ok HS2.out HG.out.1 HJ.out HB.out.2).mono ?_
    rintro e w3 ⟨rfl, hb⟩
    have HS3 := Lib.hid (HS2.out.below hb)
    obtain ⟨_, _, _, _, _, _, d6, d7⟩ := askCells HS3.out m0
    have hl3 := HS3.out.lt m0
    clear hb c6 c7 HS2
    go_wp2_with fail
    refine (jump18_any ok HS3.out HG.out.2 s d t).mono ?_
    rintro e w4 ⟨rfl, hS4⟩
    rw [HJ.out]
    have HS4 := Lib.hid hS4
    have k1 : (J == J) = true := by simp
    have k2 := HB.out.1
    clear hS4 d6 d7 HS3 m0
    go_wp2_with fail
    go_ret
    refine ⟨by simp, ?_⟩
    have h5 := HS4.out
    exact SH.toBelow (L := M ++ [(W.heap.size, askO a (.slice ao xs.length c) s t)]) (by simpa [askO] using h5)
  · have HS2 := Lib.hid hS2
    clear hS2 c0 c1 c2 c3 c4 c5 c6 c7
    go_wp2_with fail
    go_ret
    exact ⟨rfl, SH.toBelow (L := [_]) HS2.out⟩
end Go.Proofs.YtmabanabdoalaaaDoor
