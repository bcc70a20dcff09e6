/- Package heap: what up does. -/
import Derived.Test.YtmabanabdoalaaaDoorHpA
import Derived.Deep.LoopGhost
namespace Go.Proofs.YtmabanabdoalaaaDoor
open Go.RowKit

def upL (es : List (Int × Int)) (i : Nat) : List (Int × Int) :=
  if h : i = 0 then es
  else if ahead (es.getD i (0, 0)) (es.getD ((i - 1) / 2) (0, 0)) then upL (swp es ((i - 1) / 2) i) ((i - 1) / 2) else es
termination_by i
decreasing_by omega

set_option maxHeartbeats 1600000 in
theorem up_any {W w : World} {L : List (Nat × Obj)} {p r cap : Nat} {es : List (Int × Int)} {sp : List Value} (i : Int) (hS : SH W w (hpL p es r cap sp ++ L))
    (h0 : 0 ≤ i) (hi : i < es.length) (hn : es.length ≤ 100000) :
    Calls Tryd.prog 74 #[.pointer (some ⟨p, 0, none⟩), .int .i64 i] w fun e w' =>
      e = .returned (.tuple #[]) ∧ SH W w' (hpL p (upL es i.toNat) r cap sp ++ L) := by
  obtain ⟨i, rfl⟩ := Int.eq_ofNat_of_zero_le h0
  rw [Int.toNat_natCast]
  have HS := Lib.hid hS
  clear hS
  go_enter Tryd.func74, Tryd.ntmps74
  go_wp2_with fail
  go_loopw [1] (fun t wr => ∃ (k : Nat) (fs : List (Int × Int)), t = .int .i64 k ∧ k < fs.length ∧ fs.length ≤ 100000 ∧ Hid (SH W wr (hpL p fs r cap sp ++ L) ∧ upL fs k = upL es i)) (fun t _ => (intOf t).toNat)
  case atStart => exact ⟨i, es, rfl, by omega, hn, HS.out, rfl⟩
  case round =>
    obtain ⟨k, fs, rfl, hk, hfn, H⟩ := hrel
    clear HS hn hi h0
    by_cases hz : 0 < k
    · go_wp2_with fail
      refine (swap_any _ _ H.out.1 (by omega) (by omega) (by omega) (by omega) (by omega) hfn).mono ?_
      rintro e w1 ⟨rfl, hS1⟩
      rw [show (((k : Int) - 1) / 2).toNat = (k - 1) / 2 from by omega, Int.toNat_natCast] at hS1 ⊢
      generalize hR : ahead (fs.getD k (0, 0)) (fs.getD ((k - 1) / 2) (0, 0)) = R at hS1 ⊢
      cases R
      · have H2 : Hid (SH W w1 (hpL p (upL es i) r cap sp ++ L)) := by
          have e := H.out.2
          rw [upL, dif_neg (by omega), hR] at e
          have e2 : fs = upL es i := by simpa using e
          rw [← e2]
          exact hS1
        clear hR hS1
        go_wp2_with fail
        go_end0
        exact ⟨rfl, H2.out⟩
      · have H2 : Hid (SH W w1 (hpL p (swp fs ((k - 1) / 2) k) r cap sp ++ L) ∧ upL (swp fs ((k - 1) / 2) k) ((k - 1) / 2) = upL es i) := by
          have e := H.out.2
          rw [upL, dif_neg (by omega), hR, if_pos rfl] at e
          exact ⟨by simpa [swpIf] using hS1, e⟩
        clear hR hS1
        go_wp2_with fail
        go_roundw
        case rel => exact ⟨(k - 1) / 2, _, by go_num, by rw [swp_len]; omega, by rw [swp_len]; omega, H2⟩
        case measure => simp [intOf]; omega
    · have H2 : Hid (SH W wr (hpL p (upL es i) r cap sp ++ L)) := by
        have e := H.out.2
        rw [upL, dif_pos (by omega)] at e
        rw [← e]
        exact H.out.1
      clear H
      go_wp2_with fail
      go_end0
      exact ⟨rfl, H2.out⟩
end Go.Proofs.YtmabanabdoalaaaDoor
