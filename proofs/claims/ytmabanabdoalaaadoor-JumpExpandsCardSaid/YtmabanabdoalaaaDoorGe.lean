/- Package jump: turn, beside, Jump in a straight direction. -/
import Derived.Test.YtmabanabdoalaaaDoorGc
namespace Go.Proofs.YtmabanabdoalaaaDoor
open Go.RowKit

section
variable {W w : World} {L : List (Nat × Obj)} {p : Nat} {g : Gd}
theorem turn_any (d b : Int) (h0 : -8 ≤ d) (h1 : d ≤ 100) (h2 : -8 ≤ b) (h3 : b ≤ 100) (h4 : 0 ≤ d + b + 8) (w : World) :
    Calls Tryd.prog 31 #[.int .i64 d, .int .i64 b] w fun e w' => e = .returned (.int .i64 (turn d b)) ∧ w = w' := by
  generalize hT : turn d b = T
  have HT := Lib.hid hT
  clear hT
  go_enter Tryd.func31, Tryd.ntmps31
  go_wp2_with fail
  go_ret
  exact ⟨by rw [← HT.out]; rfl, rfl⟩

theorem stepV_form (g : Gd) (t d : Int) : ∃ x0 x1 x2 : Int, stepV g t d = .tuple #[.agg #[.int .i64 x0, .int .i64 x1, .int .i64 x2], .bool (decide (g.go t d ≠ -1))] := by
  unfold stepV
  by_cases h : g.go t d = -1
  · rw [if_pos h]; exact ⟨0, 0, 0, by simp [h]⟩
  · rw [if_neg h]; exact ⟨d, g.go t d, costN d, by simp [h]⟩

set_option maxHeartbeats 800000 in
theorem beside_any (ok : GdOk g) (hS : SH W w L) (hG : GdIn L p g) (a b s : Int) :
    Calls Tryd.prog 30 #[.pointer (some ⟨p, 0, none⟩), .int .i64 a, .int .i64 b, .int .i64 s] w fun e w' => e = .returned (.bool (g.beside a b s)) ∧ Below w.heap.size w w' := by
  have HS := Lib.hid hS
  have HG := Lib.hid hG
  clear hS hG
  obtain ⟨x0, x1, x2, hx⟩ := stepV_form g a s
  obtain ⟨y0, y1, y2, hy⟩ := stepV_form g b s
  have hR : g.beside a b s = (decide (g.go b s ≠ -1) && !decide (g.go a s ≠ -1)) := by simp [Gd.beside]
  generalize decide (g.go a s ≠ -1) = A at hx hR
  generalize decide (g.go b s ≠ -1) = B at hy hR
  generalize g.beside a b s = R at hR ⊢
  have HX := Lib.hid (And.intro hx (And.intro hy hR))
  clear hx hy hR
  cases B
  all_goals
    go_enter Tryd.func30, Tryd.ntmps30
    go_wp2_with fail
    refine (go_any ok HS.out HG.out a s).mono ?_
    rintro e w1 ⟨rfl, hb⟩
    rw [HX.out.1]
    have HS1 := Lib.hid (HS.out.below hb)
    have HB1 := Lib.hid hb
    clear hb
    go_wp2_with fail
    refine (go_any ok (HS1.out.alloc _) (HG.out.mono (fun x h => .tail _ h)) b s).mono ?_
    rintro e w2 ⟨rfl, hb⟩
    rw [HX.out.2.1]
    have HB2 := Lib.hid (HB1.out.trans ((below_own hb).mono HB1.out.size))
    clear hb
    go_wp2_with fail
    go_ret
    exact ⟨by rw [HX.out.2.2]; rfl, HB2.out.trans ((below_alloc _ _).mono HB2.out.size)⟩

def jumpV (r : Int) : Value := .tuple #[.int .i64 r, .bool (decide (r ≠ -1))]
theorem jumpV_none : jumpV (-1) = .tuple #[.int .i64 (-1), .bool false] := rfl
theorem jumpV_some {r : Int} (h : r ≠ -1) : jumpV r = .tuple #[.int .i64 r, .bool true] := by simp [jumpV, h]

set_option maxHeartbeats 3200000 in
set_option maxRecDepth 100000 in
theorem jump_even (ok : GdOk g) (hS : SH W w L) (hG : GdIn L p g) (t d goal : Int) (he : d % 2 = 0) :
    Calls Tryd.prog 11 #[.pointer (some ⟨p, 0, none⟩), .int .i64 t, .int .i64 d, .int .i64 goal] w fun e w' => e = .returned (jumpV (g.jump t d goal)) ∧ Below w.heap.size w w' := by
  have HS := Lib.hid (And.intro hS (Below.refl w.heap.size w))
  have HG := Lib.hid hG
  have hR : g.jumpE d goal 34 t = g.jump t d goal := by unfold Gd.jump; rw [if_pos he]
  generalize g.jump t d goal = R at hR ⊢
  have HR := Lib.hid hR
  have hr0 : g.fre t = true → g.rank d t < 34 := fun h => by have := rank_le ok d h; omega
  have HR0 := Lib.hid hr0
  clear hS hG hR hr0
  go_enter Tryd.func11, Tryd.ntmps11
  go_wp2_with fail
  go_loopg [1] 34 (fun gm t wr => ∃ t', t = .int .i64 t' ∧ Hid (0 < gm ∧ (g.fre t' = true → g.rank d t' < gm) ∧ SH W wr L ∧ Below w.heap.size w wr ∧ g.jumpE d goal gm t' = R))
  case atStart => exact ⟨t, rfl, by omega, HR0.out, HS.out.1, HS.out.2, HR.out⟩
  case round =>
    obtain ⟨t', rfl, H⟩ := hrel
    clear HS HR HR0
    obtain ⟨n, hn⟩ : ∃ n, gk = n + 1 := ⟨gk - 1, by have := H.out.1; omega⟩
    have hE : R = if g.go t' d = -1 then -1 else if g.go t' d = goal then g.go t' d
        else if (g.beside t' (g.go t' d) (turn d (-2)) || g.beside t' (g.go t' d) (turn d 2)) = true then g.go t' d else g.jumpE d goal n (g.go t' d) := by
      have := H.out.2.2.2.2
      rw [hn] at this
      rw [← this]; rfl
    by_cases h1 : g.go t' d = -1
    · rw [if_pos h1] at hE
      subst hE
      have H1 := Lib.hid h1
      clear h1 hn he
      go_wp2_with fail
      refine (go_none ok H.out.2.2.1 HG.out H1.out).mono ?_
      rintro e w1 ⟨rfl, hb⟩
      have HB := Lib.hid (H.out.2.2.2.1.trans (hb.mono H.out.2.2.2.1.size))
      clear hb
      go_wp2_with fail
      go_ret2
      exact ⟨rfl, HB.out.trans ((below_alloc _ _).mono HB.out.size)⟩
    · have hd := go_from h1
      have hrk := rank_lt ok h1
      have hge := go_nonneg h1
      rw [if_neg h1] at hE
      have H1 := Lib.hid h1
      obtain ⟨T, hT⟩ : ∃ T, g.go t' d = T := ⟨_, rfl⟩
      rw [hT] at hE hrk hge
      have HT := Lib.hid hT
      have d0 := hd.2.1
      have d8 := hd.2.2
      have Hn := Lib.hid hn
      have Hrk := Lib.hid (And.intro hrk hd.1)
      clear hT h1 hd hn hrk
      go_wp2_with fail
      refine (go_some ok H.out.2.2.1 HG.out H1.out).mono ?_
      rintro e w1 ⟨rfl, hb⟩
      rw [HT.out]
      have HB := Lib.hid (H.out.2.2.2.1.trans (hb.mono H.out.2.2.2.1.size))
      have HS := Lib.hid (H.out.2.2.1.below hb)
      clear hb
      by_cases h2 : T = goal
      · have k1 : (T == goal) = true := by simp [h2]
        rw [if_pos h2] at hE
        have HE := Lib.hid hE
        clear hE h2
        go_wp2_with fail
        go_ret2
        exact ⟨by rw [HE.out, jumpV_some (r := T) (by omega)]; rfl, HB.out.trans ((below_alloc _ _).mono HB.out.size)⟩
      · have k1 : (T == goal) = false := by simp [h2]
        rw [if_neg h2] at hE
        have HE := Lib.hid hE
        clear hE h2
        have k2 : (d % 2 == 0) = true := by simp [he]
        have k3 : (d % 2 == 1) = false := by simp [he]
        clear he
        go_wp2_with fail
        have HA := Lib.hid (HS.out.allocs (.cells #[.int .i64 d, .int .i64 T, .int .i64 (costN d)] 37) (.cells #[.int .i64 (-1), .int .i64 1] 3))
        have HBA := Lib.hid (HB.out.trans ((Below.refl w1.heap.size w1).alloc (Nat.le_refl _) (.cells #[.int .i64 d, .int .i64 T, .int .i64 (costN d)] 37) |>.alloc (by simp) (.cells #[.int .i64 (-1), .int .i64 1] 3) |>.mono HB.out.size))
        have hm : ∀ x ∈ L, x ∈ (w1.heap.size + 1, Obj.cells #[.int .i64 (-1), .int .i64 1] 3 (0, 0)) :: (w1.heap.size, Obj.cells #[.int .i64 d, .int .i64 T, .int .i64 (costN d)] 37 (0, 0)) :: L := fun x h => .tail _ (.tail _ h)
        have HG2 := Lib.hid (HG.out.mono hm)
        clear hm
        obtain ⟨b1, hb1⟩ : ∃ b, g.beside t' T (turn d (-2)) = b := ⟨_, rfl⟩
        obtain ⟨b2, hb2⟩ : ∃ b, g.beside t' T (turn d 2) = b := ⟨_, rfl⟩
        have hE := HE.out
        rw [hb1, hb2] at hE
        have HB1 := Lib.hid hb1
        have HB2 := Lib.hid hb2
        clear hb1 hb2 HE
        refine wp_loop_rounds 3 ?_
        rw [rounds_succ]
        go_wp2_with fail
        refine (turn_any d (-2) (by omega) (by omega) (by omega) (by omega) (by omega) _).mono ?_
        rintro e w2 ⟨rfl, rfl⟩
        go_wp2_with fail
        refine (beside_any ok HA.out HG2.out t' T _).mono ?_
        rintro e w2 ⟨rfl, hb⟩
        rw [HB1.out]
        have HS2 := Lib.hid (HA.out.below hb)
        have HBB := Lib.hid (HBA.out.trans (hb.mono HBA.out.size))
        have cc : w2.cell? ⟨w1.heap.size + 1, 1, none⟩ = some (.int .i64 1) := HS2.out.cell (off := 1) (.head _) rfl
        clear hb
        cases b1
        case true =>
          rw [Bool.true_or, if_pos rfl] at hE
          have HE := Lib.hid hE
          clear hE cc
          go_wp2_with fail
          go_ret2
          exact ⟨by rw [HE.out, jumpV_some (r := T) (by omega)]; rfl, HBB.out⟩
        rw [Bool.false_or] at hE
        have HE := Lib.hid hE
        clear hE
        go_wp2_with fail
        rw [rounds_succ]
        go_wp2_with fail
        refine (turn_any d 2 (by omega) (by omega) (by omega) (by omega) (by omega) _).mono ?_
        rintro e w3 ⟨rfl, rfl⟩
        go_wp2_with fail
        refine (beside_any ok HS2.out HG2.out t' T _).mono ?_
        rintro e w3 ⟨rfl, hb⟩
        rw [HB2.out]
        have HS3 := Lib.hid (HS2.out.below hb)
        have HBC := Lib.hid (HBB.out.trans (hb.mono HBB.out.size))
        clear hb cc
        cases b2
        case true =>
          have HE2 := Lib.hid (show R = T from by have := HE.out; rw [if_pos rfl] at this; exact this)
          clear HE
          go_wp2_with fail
          go_ret2
          exact ⟨by rw [HE2.out, jumpV_some (r := T) (by omega)]; rfl, HBC.out⟩
        have HE2 := Lib.hid (show R = g.jumpE d goal n T from by have := HE.out; rw [if_neg (by simp)] at this; exact this)
        clear HE
        go_wp2_with fail
        rw [rounds_succ]
        go_wp2_with fail
        have hfin : 0 < n ∧ (g.fre T = true → g.rank d T < n) ∧ SH W w3 L ∧ Below w.heap.size w w3 ∧ g.jumpE d goal n T = R := by
          have h1 := H.out.2.1 Hrk.out.2
          have h2 := Hrk.out.1
          have h3 := Hn.out
          exact ⟨by omega, fun _ => by omega, HS3.out.tail.tail, HBC.out, HE2.out.symm⟩
        have HF := Lib.hid hfin
        have hlt : n < gk := by have := Hn.out; omega
        go_roundg n
        case measure => exact hlt
        case rel => exact ⟨T, rfl, HF.out⟩
end
end Go.Proofs.YtmabanabdoalaaaDoor
