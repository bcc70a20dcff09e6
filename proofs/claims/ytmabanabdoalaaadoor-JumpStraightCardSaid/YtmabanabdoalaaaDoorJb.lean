/- The law JumpStraight: the walk. -/
import Derived.Test.YtmabanabdoalaaaDoorJa
import Derived.Deep.LoopGhost
namespace Go.Proofs.YtmabanabdoalaaaDoor
open Go.RowKit

/-- how many steps a jump takes is at most 33 -/
theorem jump_rank {g : Gd} (ok : GdOk g) {t d goal : Int} (h : g.jump t d goal ≠ -1) : g.rank d t ≤ 32 := by
  have h1 := (jump_step ok h).1
  exact rank_le ok d (go_from h1).1

set_option maxHeartbeats 3200000 in
set_option maxRecDepth 100000 in
theorem straights_any {W : World} (a : Gr) {v : Value} {xs : List Int} (hx : Sl encI 1 (old W) v xs) (s t d : Int) :
    Calls Tryd.prog 4 #[askV a v s t, .int .i64 d] W fun e w' => e = .returned (.bool true) ∧ Below W.heap.size W w' := by
  have HX := Lib.hid hx
  obtain ⟨ao, c, rfl, _, _⟩ := hx
  have HA := Lib.hid ((SH.start W).alloc (askO a (.slice ao xs.length c) s t))
  unfold askO at HA
  unfold askV
  go_enter Tryd.func4, Tryd.ntmps4
  go_wp2_with fail
  refine (alive18 _).mono ?_
  rintro e w1 ⟨rfl, hb⟩
  have HS1 := Lib.hid (HA.out.below hb)
  obtain ⟨c0, c1, c2, c3, c4, c5, c6, c7⟩ := askCells HS1.out (.head _)
  have hl := HS1.out.lt (.head _)
  clear hb
  go_wp2_with fail
  refine (made_any HS1.out a (HX.out.mono (fun x h => .tail _ h))).mono ?_
  rintro e w2 (⟨p, m, g, M, rfl, ok, _, hG, hR, hS2⟩ | ⟨rfl, hS2⟩)
  case inr =>
    have HS2 := Lib.hid hS2
    clear hS2 c0 c1 c2 c3 c4 c5 c6 c7
    go_wp2_with fail
    go_ret
    exact ⟨rfl, SH.toBelow (L := [_]) HS2.out⟩
  have HS2 := Lib.hid hS2
  have HG := Lib.hid hG
  obtain ⟨J, hJ⟩ : ∃ J, g.jump s d t = J := ⟨_, rfl⟩
  have HJ := Lib.hid hJ
  clear c0 c1 c2 c3 c4 c5 c6 c7 hG hR hJ
  have m0 : (W.heap.size, askO a (.slice ao xs.length c) s t) ∈ M ++ ((W.heap.size, askO a (.slice ao xs.length c) s t) :: old W) := by simp
  obtain ⟨_, _, _, _, _, _, c6, c7⟩ := askCells hS2 m0
  have hl2 := hS2.lt m0
  clear hS2
  have hfin : ∀ (w : World), SH W w (M ++ ((W.heap.size, askO a (.slice ao xs.length c) s t) :: old W)) → Below W.heap.size W w := fun _ h => SH.toBelow (L := M ++ [(W.heap.size, askO a (.slice ao xs.length c) s t)]) (by simpa [askO] using h)
  have HFin := Lib.hid hfin
  by_cases hn : J = -1
  · have hB : decide (J ≠ -1) = false := by simp [hn]
    have HB := Lib.hid hB
    have k1 : (J == -1) = true := by simp [hn]
    clear hB hn hfin
    go_wp2_with fail
    refine (jump_t ok HS2.out HG.out HJ.out HB.out).mono ?_
    rintro e w3 ⟨rfl, hb⟩
    have HS3 := Lib.hid (HS2.out.below hb)
    clear hb c6 c7 HS2 m0
    go_wp2_with fail
    go_ret
    exact ⟨rfl, HFin.out _ HS3.out⟩
  have hB : decide (J ≠ -1) = true := by simp [hn]
  have HB := Lib.hid hB
  have HN := Lib.hid hn
  clear hB hn hfin
  go_wp2_with fail
  refine (jump_t ok HS2.out HG.out HJ.out HB.out).mono ?_
  rintro e w3 ⟨rfl, hb⟩
  have HS3 := Lib.hid (HS2.out.below hb)
  clear hb c6 c7 HS2
  obtain ⟨_, _, _, _, _, _, c6, c7⟩ := askCells HS3.out m0
  have hl3 := HS3.out.lt m0
  have Hm0 := Lib.hid m0
  clear m0
  go_wp2_with fail
  clear c6 c7
  go_loopg [10, 44] 40 (fun gm u i wr => ∃ (b : Int) (k : Nat), u = .int .i64 b ∧ i = .int .i64 k ∧ k + gm = 40 ∧ Hid (g.jump b d t = J ∧ g.rank d b < gm ∧ SH W wr (M ++ ((W.heap.size, askO a (.slice ao xs.length c) s t) :: old W))))
  case atStart => exact ⟨s, 0, rfl, rfl, rfl, HJ.out, by have := jump_rank ok (show g.jump s d t ≠ -1 by rw [HJ.out]; exact HN.out); omega, HS3.out⟩
  case round =>
    obtain ⟨b, k, rfl, rfl, hk, H⟩ := hrel
    clear HS3
    have hst := jump_step ok (show g.jump b d t ≠ -1 by rw [H.out.1]; exact HN.out)
    rw [H.out.1] at hst
    obtain ⟨hgo, hnext⟩ := hst
    have hrk := rank_lt ok hgo
    have hge := go_nonneg hgo
    have HGo := Lib.hid hgo
    obtain ⟨T, hT⟩ : ∃ T, g.go b d = T := ⟨_, rfl⟩
    have HT := Lib.hid hT
    rw [hT] at hnext hrk hge
    have Hrk := Lib.hid hrk
    have hlt : k < 40 := by have := H.out.2.1; omega
    clear hgo hT hrk
    go_wp2_with fail
    refine (go_some ok H.out.2.2 HG.out HGo.out).mono ?_
    rintro e w4 ⟨rfl, hb⟩
    rw [HT.out]
    have HS4 := Lib.hid (H.out.2.2.below hb)
    clear hb
    by_cases hTJ : T = J
    · have k1 : (T == J) = true := by simp [hTJ]
      clear hTJ hnext
      go_wp2_with fail
      go_ret
      exact ⟨rfl, HFin.out _ (HS4.out.alloc _).tail⟩
    have k1 : (T == J) = false := by simp [hTJ]
    obtain ⟨hTt, hTn⟩ := hnext hTJ
    have k2 : (T == t) = false := by simp [hTt]
    have HTn := Lib.hid hTn
    have HS5 := Lib.hid (HS4.out.alloc (.cells #[.int .i64 d, .int .i64 T, .int .i64 (costN d)] 37))
    have HG5 := Lib.hid (HG.out.mono (M := (w4.heap.size, .cells #[.int .i64 d, .int .i64 T, .int .i64 (costN d)] 37) :: (M ++ ((W.heap.size, askO a (.slice ao xs.length c) s t) :: old W))) (fun x h => .tail _ h))
    obtain ⟨_, _, _, _, _, _, c6, c7⟩ := askCells HS4.out Hm0.out
    have hl4 := HS4.out.lt Hm0.out
    have kJ : (J != J) = false := by simp
    clear hnext hTJ hTt hTn
    go_wp2_with fail
    refine (jump_t ok HS5.out HG5.out HTn.out HB.out).mono ?_
    rintro e w6 ⟨rfl, hb⟩
    have HS6 := Lib.hid (HS5.out.below hb).tail
    clear hb c6 c7 HS5 HS4
    obtain ⟨_, _, _, _, _, _, c6, c7⟩ := askCells HS6.out Hm0.out
    have hl6 := HS6.out.lt Hm0.out
    have hgk : ∃ n, gk = n + 1 := ⟨gk - 1, by have := H.out.2.1; omega⟩
    obtain ⟨n, hn⟩ := hgk
    have HF : Hid (g.jump T d t = J ∧ g.rank d T < n ∧ SH W w6 (M ++ ((W.heap.size, askO a (.slice ao xs.length c) s t) :: old W))) := ⟨HTn.out, by have := H.out.2.1; have := Hrk.out; omega, HS6.out⟩
    have hlt2 : n < gk := by omega
    have hkn : k + 1 + n = 40 := by omega
    clear hn H
    go_wp2_with fail
    go_roundg n
    case measure => exact hlt2
    case rel => exact ⟨T, k + 1, rfl, by go_num, hkn, HF⟩
end Go.Proofs.YtmabanabdoalaaaDoor
