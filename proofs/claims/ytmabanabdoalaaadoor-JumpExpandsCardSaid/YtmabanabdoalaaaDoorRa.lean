/- Package paddockref16: Has, Way, Is, Go. -/
import Derived.Test.YtmabanabdoalaaaDoorMd
import Derived.Test.YtmabanabdoalaaaDoorGc
namespace Go.Proofs.YtmabanabdoalaaaDoor
open Go.RowKit

theorem go_is {g : Gd} {t : Int} {d : Nat} (hf : g.fre t = true) (h8 : d < 8) :
    g.go t d = if g.is (t % g.w + dxN d) (t / g.w + dyN d) = true then
      (if d % 2 = 0 then t + dxN d + dyN d * g.w else if (g.is (t % g.w + dxN d) (t / g.w) && g.is (t % g.w) (t / g.w + dyN d)) = true then t + dxN d + dyN d * g.w else -1) else -1 := by
  have hv : (t / g.w + dyN d) * g.w + (t % g.w + dxN d) = t + dxN d + dyN d * g.w := by
    have := Int.mul_ediv_add_emod t g.w
    rw [Int.add_mul, Int.mul_comm (t / g.w)]
    omega
  unfold Gd.go
  rw [if_pos ⟨hf, by omega, by omega⟩, Int.toNat_natCast]
  by_cases h1 : g.is (t % g.w + dxN d) (t / g.w + dyN d) = true
  · have h2 := (to_is g t d).2 h1
    rw [if_neg h2, if_pos h1]
    have h3 : g.to t d = t + dxN d + dyN d * g.w := by
      rcases to_or g t d with h | ⟨_, h, _⟩
      · exact absurd h h2
      · rw [h, hv]
    rw [h3]
    by_cases he : d % 2 = 0
    · rw [if_pos (by omega), if_pos he]
    · rw [if_neg (by omega), if_neg he]
      have key : (g.to t (d - 1) = -1 ∨ g.to t ((d + 1) % 8) = -1) ↔ ¬ ((g.is (t % g.w + dxN d) (t / g.w) && g.is (t % g.w) (t / g.w + dyN d)) = true) := by
        have k1 := to_is g t (d - 1)
        have k2 := to_is g t ((d + 1) % 8)
        have hd : d = 1 ∨ d = 3 ∨ d = 5 ∨ d = 7 := by omega
        simp only [Bool.and_eq_true]
        rcases hd with rfl | rfl | rfl | rfl <;> simp only [dxN, dyN, Int.add_zero, Nat.reduceAdd, Nat.reduceMod, Nat.reduceSub] at k1 k2 ⊢ <;> rw [← k1, ← k2] <;> omega
      by_cases h4 : (g.is (t % g.w + dxN d) (t / g.w) && g.is (t % g.w) (t / g.w + dyN d)) = true
      · rw [if_pos h4, if_neg (fun h => key.1 h h4)]
      · rw [if_neg h4, if_pos (key.2 h4)]
  · rw [if_neg h1, if_pos]
    exact Classical.byContradiction fun h => h1 ((to_is g t d).1 h)

section
variable {W w : World} {L : List (Nat × Obj)} {p : Nat} {g : Gd}
theorem rhas_any (hS : SH W w L) (hG : RgIn L p g) (t : Int) :
    Calls Tryd.prog 32 #[.pointer (some ⟨p, 0, none⟩), .int .i64 t] w fun e w' => e = .returned (.bool (g.has t)) ∧ w = w' := by
  obtain ⟨r, hp, _⟩ := hG
  have c2 : w.cell? ⟨p, 2, none⟩ = some (.slice (some ⟨r, 0, none⟩) g.fr.length g.fr.length) := hS.cell hp rfl
  clear hS hp
  generalize hb : g.has t = b
  have HB := Lib.hid hb
  clear hb
  by_cases h0 : 0 ≤ t
  · go_enter Tryd.func32, Tryd.ntmps32
    go_wp2_with fail
    go_ret
    exact ⟨by rw [← HB.out]; simp [Gd.has, h0], rfl⟩
  · go_enter Tryd.func32, Tryd.ntmps32
    go_wp2_with fail
    go_ret
    exact ⟨by rw [← HB.out]; simp [Gd.has]; omega, rfl⟩

theorem way_any (d : Nat) (h8 : d < 8) (w : World) :
    Calls Tryd.prog 60 #[.int .i64 d] w fun e w' => e = .returned (.tuple #[.int .i64 (dxN d), .int .i64 (dyN d)]) ∧ w = w' := by
  match d, h8 with
  | 0, _ | 1, _ | 2, _ | 3, _ | 4, _ | 5, _ | 6, _ | 7, _ =>
    simp only [dxN, dyN]
    go_enter Tryd.func60, Tryd.ntmps60
    go_wp2_with fail
    go_ret2
    exact ⟨rfl, rfl⟩

set_option maxHeartbeats 1600000 in
theorem is16_any (ok : GdOk g) (hS : SH W w L) (hG : RgIn L p g) (X Y : Int) (hXb : -100 ≤ X ∧ X ≤ 100) (hYb : -100 ≤ Y ∧ Y ≤ 100) :
    Calls Tryd.prog 61 #[.pointer (some ⟨p, 0, none⟩), .int .i64 X, .int .i64 Y] w fun e w' => e = .returned (.bool (g.is X Y)) ∧ Below w.heap.size w w' := by
  obtain ⟨r, hp, hr⟩ := hG
  have HS := Lib.hid hS
  have hw1 := ok.w1
  have hw2 := ok.w2
  have hh2 := ok.h2
  have c0 : w.cell? ⟨p, 0, none⟩ = some (.int .i64 g.w) := hS.cell hp rfl
  have c1 : w.cell? ⟨p, 1, none⟩ = some (.int .i64 g.h) := hS.cell hp rfl
  have c2 : w.cell? ⟨p, 2, none⟩ = some (.slice (some ⟨r, 0, none⟩) g.fr.length g.fr.length) := hS.cell hp rfl
  have HR := Lib.hid hr
  clear hS hp hr
  have isf : ¬ (0 ≤ X ∧ X < g.w ∧ 0 ≤ Y ∧ Y < g.h) → g.is X Y = false := fun h => by simp [Gd.is, h]
  by_cases a1 : X < 0
  · rw [isf (by omega)]
    have b1 : decide (0 ≤ X) = false := decide_eq_false (by omega)
    clear isf
    go_enter Tryd.func61, Tryd.ntmps61
    go_wp2_with fail
    go_quiet (fail)
    go_wp2_with fail
    go_ret
    exact ⟨rfl, below_drewN (Below.refl _ _)⟩
  have b1 : decide (0 ≤ X) = true := decide_eq_true (by omega)
  by_cases a2 : (g.w : Int) ≤ X
  · rw [isf (by omega)]
    have b2 : decide (X < (g.w : Int)) = false := decide_eq_false (by omega)
    clear isf
    go_enter Tryd.func61, Tryd.ntmps61
    go_wp2_with fail
    go_quiet (fail)
    go_wp2_with fail
    go_ret
    exact ⟨rfl, below_drewN (Below.refl _ _)⟩
  have b2 : decide (X < (g.w : Int)) = true := decide_eq_true (by omega)
  by_cases a3 : Y < 0
  · rw [isf (by omega)]
    have b3 : decide (0 ≤ Y) = false := decide_eq_false (by omega)
    clear isf
    go_enter Tryd.func61, Tryd.ntmps61
    go_wp2_with fail
    go_quiet (fail)
    go_wp2_with fail
    go_ret
    exact ⟨rfl, below_drewN (Below.refl _ _)⟩
  have b3 : decide (0 ≤ Y) = true := decide_eq_true (by omega)
  by_cases a4 : (g.h : Int) ≤ Y
  · rw [isf (by omega)]
    have b4 : decide (Y < (g.h : Int)) = false := decide_eq_false (by omega)
    clear isf
    go_enter Tryd.func61, Tryd.ntmps61
    go_wp2_with fail
    go_quiet (fail)
    go_wp2_with fail
    go_ret
    exact ⟨rfl, below_drewN (Below.refl _ _)⟩
  have b4 : decide (Y < (g.h : Int)) = true := decide_eq_true (by omega)
  have hrow := row_nonneg (w := g.w) (x := X) (y := Y) (by omega) (by omega) (by omega)
  have hmul : Y * (g.w : Int) ≤ ((g.h : Int) - 1) * g.w := Int.mul_le_mul_of_nonneg_right (by omega) (by omega)
  have hmul2 : ((g.h : Int) - 1) * g.w = g.h * g.w - g.w := by rw [Int.sub_mul, Int.one_mul]
  have hmul3 : (g.h : Int) * g.w ≤ 32 * 32 := Int.mul_le_mul (by omega) (by omega) (by omega) (by omega)
  have hmul0 : 0 ≤ Y * (g.w : Int) := Int.mul_nonneg (by omega) (by omega)
  have hlen : (g.fr.length : Int) = g.h * g.w := by rw [ok.len, Int.mul_comm]; simp
  obtain ⟨K, hK⟩ := Int.eq_ofNat_of_zero_le hrow
  have hKl : K < g.fr.length := by omega
  obtain ⟨b, hb⟩ : ∃ b, g.fr[K]? = some b := ⟨g.fr[K], by simp [hKl]⟩
  have hbf : g.is X Y = b := by
    have h1 : g.fre (Y * g.w + X) = b := by rw [hK]; exact fre_get (by omega) (by simpa using hb)
    unfold Gd.is
    rw [h1]
    simp; intros; omega
  rw [hbf]
  have cr : w.cell? ⟨r, K, none⟩ = some (.bool b) := HS.out.cell HR.out (bools_get hb)
  have m0 : IntKind.i64.wrap (Y * (g.w : Int)) = Y * g.w := wrap_small (by omega) (by omega)
  have m1 : IntKind.i64.wrap (Y * (g.w : Int) + X) = (K : Int) := by rw [hK]; exact wrap_small (by omega) (by omega)
  have m2 : (K : Int) < (g.fr.length : Int) := by omega
  clear isf hb hbf hmul hmul2 hmul3 hmul0 hlen hK hrow a1 a2 a3 a4
  go_enter Tryd.func61, Tryd.ntmps61
  go_wp2_with fail
  go_quiet (fail)
  go_wp2_with fail
  go_ret
  exact ⟨rfl, below_drewN (Below.refl _ _)⟩
end
end Go.Proofs.YtmabanabdoalaaaDoor
