/- Package heap: what down does. -/
import Derived.Test.YtmabanabdoalaaaDoorHpB
import Derived.StillTailTactics
namespace Go.Proofs.YtmabanabdoalaaaDoor
open Go.RowKit

def child (es : List (Int × Int)) (i : Nat) : Nat := if 2 * i + 2 < es.length ∧ ahead (es.getD (2 * i + 2) (0, 0)) (es.getD (2 * i + 1) (0, 0)) = true then 2 * i + 2 else 2 * i + 1
theorem child_bd (es : List (Int × Int)) (i : Nat) (h : 2 * i + 1 < es.length) : i < child es i ∧ child es i < es.length := by
  unfold child; split <;> omega
def downL (es : List (Int × Int)) (i : Nat) : List (Int × Int) :=
  if _h : 2 * i + 1 < es.length then
    if ahead (es.getD (child es i) (0, 0)) (es.getD i (0, 0)) then downL (swp es i (child es i)) (child es i) else es
  else es
termination_by es.length - i
decreasing_by
  have := child_bd es i _h
  rw [swp_len]; omega
theorem downL_len (es : List (Int × Int)) (i : Nat) : (downL es i).length = es.length := by
  induction es, i using downL.induct with
  | case1 es i h h2 ih => rw [downL, dif_pos h, if_pos h2, ih, swp_len]
  | case2 es i h h2 => rw [downL, dif_pos h, if_neg h2]
  | case3 es i h => rw [downL, dif_neg h]

set_option maxHeartbeats 800000 in
set_option maxRecDepth 100000 in
theorem down_any {W w : World} {L : List (Nat × Obj)} {p r cap : Nat} {es : List (Int × Int)} {sp : List Value} (hS : SH W w (hpL p es r cap sp ++ L))
    (hn : es.length ≤ 100000) :
    Calls Tryd.prog 76 #[.pointer (some ⟨p, 0, none⟩), .int .i64 0] w fun e w' =>
      e = .returned (.tuple #[]) ∧ SH W w' (hpL p (downL es 0) r cap sp ++ L) := by
  have HS := Lib.hid hS
  clear hS
  go_enter Tryd.func76, Tryd.ntmps76
  go_wp2_with fail
  go_loopw [1] (fun t wr => ∃ (k : Nat) (fs : List (Int × Int)), t = .int .i64 k ∧ k ≤ fs.length ∧ fs.length ≤ 100000 ∧ Hid (SH W wr (hpL p fs r cap sp ++ L) ∧ downL fs k = downL es 0 ∧ fs.length = es.length)) (fun t _ => es.length - (intOf t).toNat)
  case atStart => exact ⟨0, es, rfl, by omega, hn, HS.out, rfl, rfl⟩
  case round =>
    obtain ⟨k, fs, rfl, hk, hfn, H⟩ := hrel
    clear HS hn
    have hp : wr.cell? ⟨p, 0, none⟩ = some (.slice (some ⟨r, 0, none⟩) fs.length cap) := H.out.1.cell (.head _) rfl
    have hpx : ∀ x : SHW W (hpL p fs r cap sp ++ L), x.w.cell? ⟨p, 0, none⟩ = some (.slice (some ⟨r, 0, none⟩) fs.length cap) := fun x => x.ok.cell (.head _) rfl
    have hne : Nonempty (SHW W (hpL p fs r cap sp ++ L)) := ⟨⟨_, H.out.1⟩⟩
    by_cases hz : 2 * k + 1 < fs.length
    · by_cases c2 : 2 * k + 2 < fs.length
      · obtain ⟨⟨k1, v1⟩, hx⟩ : ∃ x, fs[2 * k + 1]? = some x := ⟨fs[2 * k + 1]'(by omega), by simp⟩
        obtain ⟨⟨k2, v2⟩, hy⟩ : ∃ x, fs[2 * k + 2]? = some x := ⟨fs[2 * k + 2]'(by omega), by simp⟩
        have ci0 : ∀ x : SHW W (hpL p fs r cap sp ++ L), x.w.cell? ⟨r, (2 * k + 1) * 2, none⟩ = some (.int .i64 k1) := fun x => x.ok.cell (.tail _ (.head _)) (flatE_get0 hx)
        have ci1 : ∀ x : SHW W (hpL p fs r cap sp ++ L), x.w.cell? ⟨r, (2 * k + 1) * 2 + 1, none⟩ = some (.int .i64 v1) := fun x => x.ok.cell (.tail _ (.head _)) (flatE_get1 hx)
        have cj0 : ∀ x : SHW W (hpL p fs r cap sp ++ L), x.w.cell? ⟨r, (2 * k + 2) * 2, none⟩ = some (.int .i64 k2) := fun x => x.ok.cell (.tail _ (.head _)) (flatE_get0 hy)
        have cj1 : ∀ x : SHW W (hpL p fs r cap sp ++ L), x.w.cell? ⟨r, (2 * k + 2) * 2 + 1, none⟩ = some (.int .i64 v2) := fun x => x.ok.cell (.tail _ (.head _)) (flatE_get1 hy)
        have c2a : 2 * (k : Int) + 1 + 1 < (fs.length : Int) := by omega
        have c2b : 2 * (k : Int) + 2 < (fs.length : Int) := by omega
        have Hx := Lib.hid (And.intro hx hy)
        clear hx hy
        go_wp2_with fail
        refine wp_region_sh (by kernel_rfl) (by kernel_rfl) H.out.1 ?_
        repeat (go_big_quiet_step (refine calls_sh (ahead_any _ _ _ _ _)))
        refine wpQuiet_nil ?_
        rintro ⟨w1, hS1⟩
        dsimp only
        generalize hR : ahead (k2, v2) (k1, v1) = R
        have h21 : ahead (fs.getD (2 * k + 2) (0, 0)) (fs.getD (2 * k + 1) (0, 0)) = R := by
          rw [← hR]; simp [Hx.out.1, Hx.out.2]
        cases R
        · have Hc : Hid (child fs k = 2 * k + 1) := by
            show child fs k = _
            unfold child
            rw [if_neg (fun h => by rw [h21] at h; exact Bool.false_ne_true h.2)]
          clear hR h21 ci0 ci1 cj0 cj1 hpx hp hne c2a c2b
          go_wp2_with fail
          refine (swap_any _ _ hS1 (by omega) (by omega) (by omega) (by omega) (by omega) hfn).mono ?_
          rintro e w2 ⟨rfl, hS2⟩
          rw [show (2 * (k : Int) + 1).toNat = 2 * k + 1 from by omega, Int.toNat_natCast] at hS2 ⊢
          generalize hB : ahead (fs.getD (2 * k + 1) (0, 0)) (fs.getD k (0, 0)) = B at hS2 ⊢
          cases B
          · have H2 : Hid (SH W w2 (hpL p (downL es 0) r cap sp ++ L)) := by
              have e := H.out.2.1
              rw [downL, dif_pos hz, Hc.out, hB, if_neg Bool.false_ne_true] at e
              rw [← e]
              exact hS2
            clear hB hS2 hS1
            go_wp2_with fail
            first | go_end0 | (refine bodyPost_ret (results_none rfl _ _ _) rfl ?_)
            exact ⟨rfl, H2.out⟩
          · have H2 : Hid (SH W w2 (hpL p (swp fs k (2 * k + 1)) r cap sp ++ L) ∧ downL (swp fs k (2 * k + 1)) (2 * k + 1) = downL es 0 ∧ (swp fs k (2 * k + 1)).length = es.length) := by
              have e := H.out.2.1
              rw [downL, dif_pos hz, Hc.out, hB, if_pos rfl] at e
              exact ⟨hS2, e, by rw [swp_len]; exact H.out.2.2⟩
            have hes := H.out.2.2
            have hes1 : fs.length ≤ es.length := by omega
            clear hB hS2 hS1 hes
            go_wp2_with fail
            go_roundw
            case rel => exact ⟨2 * k + 1, _, by go_num, by rw [swp_len]; omega, by rw [swp_len]; omega, H2⟩
            case measure => simp [intOf]; omega
        · have Hc : Hid (child fs k = 2 * k + 2) := by
            show child fs k = _
            unfold child
            rw [if_pos ⟨c2, h21⟩]
          clear hR h21 ci0 ci1 cj0 cj1 hpx hp hne c2a c2b
          go_wp2_with fail
          refine (swap_any _ _ hS1 (by omega) (by omega) (by omega) (by omega) (by omega) hfn).mono ?_
          rintro e w2 ⟨rfl, hS2⟩
          rw [show (2 * (k : Int) + 1 + 1).toNat = 2 * k + 2 from by omega, Int.toNat_natCast] at hS2 ⊢
          generalize hB : ahead (fs.getD (2 * k + 2) (0, 0)) (fs.getD k (0, 0)) = B at hS2 ⊢
          cases B
          · have H2 : Hid (SH W w2 (hpL p (downL es 0) r cap sp ++ L)) := by
              have e := H.out.2.1
              rw [downL, dif_pos hz, Hc.out, hB, if_neg Bool.false_ne_true] at e
              rw [← e]
              exact hS2
            clear hB hS2 hS1
            go_wp2_with fail
            first | go_end0 | (refine bodyPost_ret (results_none rfl _ _ _) rfl ?_)
            exact ⟨rfl, H2.out⟩
          · have H2 : Hid (SH W w2 (hpL p (swp fs k (2 * k + 2)) r cap sp ++ L) ∧ downL (swp fs k (2 * k + 2)) (2 * k + 2) = downL es 0 ∧ (swp fs k (2 * k + 2)).length = es.length) := by
              have e := H.out.2.1
              rw [downL, dif_pos hz, Hc.out, hB, if_pos rfl] at e
              exact ⟨hS2, e, by rw [swp_len]; exact H.out.2.2⟩
            have hes := H.out.2.2
            have hes1 : fs.length ≤ es.length := by omega
            clear hB hS2 hS1 hes
            go_wp2_with fail
            go_roundw
            case rel => exact ⟨2 * k + 2, _, by go_num, by rw [swp_len]; omega, by rw [swp_len]; omega, H2⟩
            case measure => simp [intOf]; omega
      · have c2a : decide (2 * (k : Int) + 1 + 1 < (fs.length : Int)) = false := decide_eq_false (by omega)
        have c2b : decide (2 * (k : Int) + 2 < (fs.length : Int)) = false := decide_eq_false (by omega)
        go_wp2_with fail
        refine wp_region_sh (by kernel_rfl) (by kernel_rfl) H.out.1 ?_
        repeat (go_big_quiet_step (refine calls_sh (ahead_any _ _ _ _ _)))
        refine wpQuiet_nil ?_
        rintro ⟨w1, hS1⟩
        dsimp only
        have Hc : Hid (child fs k = 2 * k + 1) := by
          show child fs k = _
          unfold child
          rw [if_neg (fun h => c2 h.1)]
        clear hpx hp hne c2a c2b
        go_wp2_with fail
        refine (swap_any _ _ hS1 (by omega) (by omega) (by omega) (by omega) (by omega) hfn).mono ?_
        rintro e w2 ⟨rfl, hS2⟩
        rw [show (2 * (k : Int) + 1).toNat = 2 * k + 1 from by omega, Int.toNat_natCast] at hS2 ⊢
        generalize hB : ahead (fs.getD (2 * k + 1) (0, 0)) (fs.getD k (0, 0)) = B at hS2 ⊢
        cases B
        · have H2 : Hid (SH W w2 (hpL p (downL es 0) r cap sp ++ L)) := by
            have e := H.out.2.1
            rw [downL, dif_pos hz, Hc.out, hB, if_neg Bool.false_ne_true] at e
            rw [← e]
            exact hS2
          clear hB hS2 hS1
          go_wp2_with fail
          first | go_end0 | (refine bodyPost_ret (results_none rfl _ _ _) rfl ?_)
          exact ⟨rfl, H2.out⟩
        · have H2 : Hid (SH W w2 (hpL p (swp fs k (2 * k + 1)) r cap sp ++ L) ∧ downL (swp fs k (2 * k + 1)) (2 * k + 1) = downL es 0 ∧ (swp fs k (2 * k + 1)).length = es.length) := by
            have e := H.out.2.1
            rw [downL, dif_pos hz, Hc.out, hB, if_pos rfl] at e
            exact ⟨hS2, e, by rw [swp_len]; exact H.out.2.2⟩
          have hes := H.out.2.2
          have hes1 : fs.length ≤ es.length := by omega
          clear hB hS2 hS1 hes
          go_wp2_with fail
          go_roundw
          case rel => exact ⟨2 * k + 1, _, by go_num, by rw [swp_len]; omega, by rw [swp_len]; omega, H2⟩
          case measure => simp [intOf]; omega
    · have H2 : Hid (SH W wr (hpL p (downL es 0) r cap sp ++ L)) := by
        have e := H.out.2.1
        rw [downL, dif_neg hz] at e
        rw [← e]
        exact H.out.1
      clear H hpx hne
      go_wp2_with fail
      first | go_end0 | (refine bodyPost_ret (results_none rfl _ _ _) rfl ?_)
      exact ⟨rfl, H2.out⟩
end Go.Proofs.YtmabanabdoalaaaDoor
