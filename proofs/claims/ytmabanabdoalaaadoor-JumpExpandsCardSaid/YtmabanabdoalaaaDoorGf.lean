/- Package jump: Jump in a slanting direction, and so in each. -/
import Derived.Test.YtmabanabdoalaaaDoorGe
namespace Go.Proofs.YtmabanabdoalaaaDoor
open Go.RowKit

section
variable {W w : World} {L : List (Nat × Obj)} {p : Nat} {g : Gd}
set_option maxHeartbeats 3200000 in
set_option maxRecDepth 100000 in
theorem jump_odd (ok : GdOk g) (hS : SH W w L) (hG : GdIn L p g) (t d goal : Int) (he : d % 2 = 1) :
    Calls Tryd.prog 11 #[.pointer (some ⟨p, 0, none⟩), .int .i64 t, .int .i64 d, .int .i64 goal] w fun e w' => e = .returned (jumpV (g.jump t d goal)) ∧ Below w.heap.size w w' := by
  have HS := Lib.hid (And.intro hS (Below.refl w.heap.size w))
  have HG := Lib.hid hG
  have HEV : Hid (turn d (-1) % 2 = 0 ∧ turn d 1 % 2 = 0) := ⟨by unfold turn; omega, by unfold turn; omega⟩
  have hR : g.jumpO d goal 34 t = g.jump t d goal := by unfold Gd.jump; rw [if_neg (by omega)]
  generalize g.jump t d goal = R at hR ⊢
  have HR := Lib.hid hR
  have hr0 : g.fre t = true → g.rank d t < 34 := fun h => by have := rank_le ok d h; omega
  have HR0 := Lib.hid hr0
  clear hS hG hR hr0
  go_enter Tryd.func11, Tryd.ntmps11
  go_wp2_with fail
  go_loopg [1] 34 (fun gm t wr => ∃ t', t = .int .i64 t' ∧ Hid (0 < gm ∧ (g.fre t' = true → g.rank d t' < gm) ∧ SH W wr L ∧ Below w.heap.size w wr ∧ g.jumpO d goal gm t' = R))
  case atStart => exact ⟨t, rfl, by omega, HR0.out, HS.out.1, HS.out.2, HR.out⟩
  case round =>
    obtain ⟨t', rfl, H⟩ := hrel
    clear HS HR HR0
    obtain ⟨n, hn⟩ : ∃ n, gk = n + 1 := ⟨gk - 1, by have := H.out.1; omega⟩
    have hE : R = if g.go t' d = -1 then -1 else if g.go t' d = goal then g.go t' d
        else if g.jumpE (turn d (-1)) goal 34 (g.go t' d) ≠ -1 ∨ g.jumpE (turn d 1) goal 34 (g.go t' d) ≠ -1 then g.go t' d else g.jumpO d goal n (g.go t' d) := by
      have := H.out.2.2.2.2
      rw [hn] at this
      rw [← this]; rfl
    by_cases h1 : g.go t' d = -1
    · rw [if_pos h1] at hE
      subst hE
      have H1 := Lib.hid h1
      clear h1 hn he
      go_wp2_with fail
      refine (go_none ok H.out.2.2.1 HG.out H1.out).mono ?_
      rintro e w1 ⟨rfl, hb⟩
      have HB := Lib.hid (H.out.2.2.2.1.trans (hb.mono H.out.2.2.2.1.size))
      clear hb
      go_wp2_with fail
      go_ret2
      exact ⟨rfl, HB.out.trans ((below_alloc _ _).mono HB.out.size)⟩
    · have hd := go_from h1
      have hrk := rank_lt ok h1
      have hge := go_nonneg h1
      rw [if_neg h1] at hE
      have H1 := Lib.hid h1
      obtain ⟨T, hT⟩ : ∃ T, g.go t' d = T := ⟨_, rfl⟩
      rw [hT] at hE hrk hge
      have HT := Lib.hid hT
      have d0 := hd.2.1
      have d8 := hd.2.2
      have Hn := Lib.hid hn
      have Hrk := Lib.hid (And.intro hrk hd.1)
      clear hT h1 hd hn hrk
      go_wp2_with fail
      refine (go_some ok H.out.2.2.1 HG.out H1.out).mono ?_
      rintro e w1 ⟨rfl, hb⟩
      rw [HT.out]
      have HB := Lib.hid (H.out.2.2.2.1.trans (hb.mono H.out.2.2.2.1.size))
      have HS := Lib.hid (H.out.2.2.1.below hb)
      clear hb
      by_cases h2 : T = goal
      · have k1 : (T == goal) = true := by simp [h2]
        rw [if_pos h2] at hE
        have HE := Lib.hid hE
        clear hE h2
        go_wp2_with fail
        go_ret2
        exact ⟨by rw [HE.out, jumpV_some (r := T) (by omega)]; rfl, HB.out.trans ((below_alloc _ _).mono HB.out.size)⟩
      · have k1 : (T == goal) = false := by simp [h2]
        rw [if_neg h2] at hE
        have HE := Lib.hid hE
        clear hE h2
        have k2 : (d % 2 == 0) = false := by simp [he]
        have k3 : (d % 2 == 1) = true := by simp [he]
        clear he
        go_wp2_with fail
        have HA := Lib.hid (HS.out.allocs (.cells #[.int .i64 d, .int .i64 T, .int .i64 (costN d)] 37) (.cells #[.int .i64 (-1), .int .i64 1] 3))
        have HBA := Lib.hid (HB.out.trans ((Below.refl w1.heap.size w1).alloc (Nat.le_refl _) (.cells #[.int .i64 d, .int .i64 T, .int .i64 (costN d)] 37) |>.alloc (by simp) (.cells #[.int .i64 (-1), .int .i64 1] 3) |>.mono HB.out.size))
        have hm : ∀ x ∈ L, x ∈ (w1.heap.size + 1, Obj.cells #[.int .i64 (-1), .int .i64 1] 3 (0, 0)) :: (w1.heap.size, Obj.cells #[.int .i64 d, .int .i64 T, .int .i64 (costN d)] 37 (0, 0)) :: L := fun x h => .tail _ (.tail _ h)
        have HG2 := Lib.hid (HG.out.mono hm)
        clear hm
        have ev1 := HEV.out.1
        have ev2 := HEV.out.2
        have j1 : g.jumpE (turn d (-1)) goal 34 T = g.jump T (turn d (-1)) goal := by unfold Gd.jump; rw [if_pos ev1]
        have j2 : g.jumpE (turn d 1) goal 34 T = g.jump T (turn d 1) goal := by unfold Gd.jump; rw [if_pos ev2]
        obtain ⟨b1, hb1⟩ : ∃ b, g.jump T (turn d (-1)) goal = b := ⟨_, rfl⟩
        obtain ⟨b2, hb2⟩ : ∃ b, g.jump T (turn d 1) goal = b := ⟨_, rfl⟩
        have hE := HE.out
        rw [j1, j2, hb1, hb2] at hE
        have HB1 := Lib.hid hb1
        have HB2 := Lib.hid hb2
        clear hb1 hb2 HE j1 j2 ev1 ev2
        refine wp_loop_rounds 3 ?_
        rw [rounds_succ]
        go_wp2_with fail
        refine (turn_any d (-1) (by omega) (by omega) (by omega) (by omega) (by omega) _).mono ?_
        rintro e w2 ⟨rfl, rfl⟩
        go_wp2_with fail
        refine (jump_even ok HA.out HG2.out T _ goal HEV.out.1).mono ?_
        rintro e w2 ⟨rfl, hb⟩
        rw [HB1.out]
        unfold jumpV
        have HS2 := Lib.hid (HA.out.below hb)
        have HBB := Lib.hid (HBA.out.trans (hb.mono HBA.out.size))
        have cc : w2.cell? ⟨w1.heap.size + 1, 1, none⟩ = some (.int .i64 1) := HS2.out.cell (off := 1) (.head _) rfl
        clear hb
        by_cases c1 : b1 = -1
        case neg =>
          rw [if_pos (.inl c1)] at hE
          have HE2 := Lib.hid hE
          rw [show decide (b1 ≠ -1) = true by simp [c1]]
          clear hE cc c1
          go_wp2_with fail
          go_ret2
          exact ⟨by rw [HE2.out, jumpV_some (r := T) (by omega)]; rfl, HBB.out⟩
        rw [show decide (b1 ≠ -1) = false by simp [c1]]
        have HE2 := Lib.hid hE
        have HC1 := Lib.hid c1
        clear hE c1
        go_wp2_with fail
        rw [rounds_succ]
        go_wp2_with fail
        refine (turn_any d 1 (by omega) (by omega) (by omega) (by omega) (by omega) _).mono ?_
        rintro e w3 ⟨rfl, rfl⟩
        go_wp2_with fail
        refine (jump_even ok HS2.out HG2.out T _ goal HEV.out.2).mono ?_
        rintro e w3 ⟨rfl, hb⟩
        rw [HB2.out]
        unfold jumpV
        have HS3 := Lib.hid (HS2.out.below hb)
        have HBC := Lib.hid (HBB.out.trans (hb.mono HBB.out.size))
        clear hb cc
        by_cases c2 : b2 = -1
        case neg =>
          have HE3 := Lib.hid (show R = T from by have := HE2.out; rw [if_pos (.inr c2)] at this; exact this)
          rw [show decide (b2 ≠ -1) = true by simp [c2]]
          clear HE2 c2
          go_wp2_with fail
          go_ret2
          exact ⟨by rw [HE3.out, jumpV_some (r := T) (by omega)]; rfl, HBC.out⟩
        rw [show decide (b2 ≠ -1) = false by simp [c2]]
        have HE3 := Lib.hid (show R = g.jumpO d goal n T from by have := HE2.out; rw [if_neg (by rintro (h | h); exact h HC1.out; exact h c2)] at this; exact this)
        clear HE2 c2
        go_wp2_with fail
        rw [rounds_succ]
        go_wp2_with fail
        have hfin : 0 < n ∧ (g.fre T = true → g.rank d T < n) ∧ SH W w3 L ∧ Below w.heap.size w w3 ∧ g.jumpO d goal n T = R := by
          have h1 := H.out.2.1 Hrk.out.2
          have h2 := Hrk.out.1
          have h3 := Hn.out
          exact ⟨by omega, fun _ => by omega, HS3.out.tail.tail, HBC.out, HE3.out.symm⟩
        have HF := Lib.hid hfin
        have hlt : n < gk := by have := Hn.out; omega
        go_roundg n
        case measure => exact hlt
        case rel => exact ⟨T, rfl, HF.out⟩
theorem jump_any (ok : GdOk g) (hS : SH W w L) (hG : GdIn L p g) (t d goal : Int) :
    Calls Tryd.prog 11 #[.pointer (some ⟨p, 0, none⟩), .int .i64 t, .int .i64 d, .int .i64 goal] w fun e w' => e = .returned (jumpV (g.jump t d goal)) ∧ Below w.heap.size w w' := by
  rcases Int.emod_two_eq d with h | h
  · exact jump_even ok hS hG t d goal h
  · exact jump_odd ok hS hG t d goal h
end
end Go.Proofs.YtmabanabdoalaaaDoor
