/- Package steps: to. -/
import Derived.Test.YtmabanabdoalaaaDoorGa
namespace Go.Proofs.YtmabanabdoalaaaDoor
open Go.RowKit

section
variable {W w : World} {L : List (Nat × Obj)} {p : Nat} {g : Gd}
theorem dx_bd (d : Nat) : -1 ≤ dxN d ∧ dxN d ≤ 1 := by unfold dxN; split <;> omega
theorem dy_bd (d : Nat) : -1 ≤ dyN d ∧ dyN d ≤ 1 := by unfold dyN; split <;> omega
theorem wrap_small {x : Int} (h0 : -1000000 ≤ x) (h1 : x ≤ 1000000) : IntKind.i64.wrap x = x := by
  simp [IntKind.wrap, IntKind.bits, IntKind.signed]; omega

set_option maxHeartbeats 1600000 in
theorem to_any (ok : GdOk g) (hS : SH W w L) (hG : GdIn L p g) {t : Int} (ht : g.fre t = true) {d : Nat} (h8 : d < 8) :
    Calls Tryd.prog 36 #[.pointer (some ⟨p, 0, none⟩), .int .i64 t, .int .i64 d] w fun e w' => e = .returned (.int .i64 (g.to t d)) ∧ Below w.heap.size w w' := by
  have hbd := tile_bd ok ht
  have hfb := fre_bd ht
  obtain ⟨r, hp, hr⟩ := hG
  have HS := Lib.hid hS
  have HR := Lib.hid hr
  have HP := Lib.hid hp
  have hw1 := ok.w1
  have hw2 := ok.w2
  have hh2 := ok.h2
  have hln := ok.len
  have hdx := dx_bd d
  have hdy := dy_bd d
  have e1 : t.tmod (g.w : Int) = t % g.w := Int.tmod_eq_emod_of_nonneg hfb.1
  have e2 : t.tdiv (g.w : Int) = t / g.w := Int.tdiv_eq_ediv_of_nonneg hfb.1
  have HT := Lib.hid (show g.to t d = if g.is (t % g.w + dxN d) (t / g.w + dyN d) = true then (t / g.w + dyN d) * g.w + (t % g.w + dxN d) else -1 from rfl)
  generalize g.to t d = R at HT ⊢
  have HE := Lib.hid (And.intro e1 e2)
  clear hS hr hp hln e1 e2 ht hfb
  obtain ⟨x0, hx0⟩ : ∃ x, t % (g.w : Int) = x := ⟨_, rfl⟩
  obtain ⟨y0, hy0⟩ : ∃ y, t / (g.w : Int) = y := ⟨_, rfl⟩
  rw [hx0, hy0] at hbd HT HE
  go_enter Tryd.func36, Tryd.ntmps36
  go_wp2_with fail
  refine (shift_any d h8 _).mono ?_
  rintro e w1 ⟨rfl, hb⟩
  have HS1 := Lib.hid (HS.out.below hb)
  have HB1 := Lib.hid hb
  clear HS hb
  obtain ⟨dx, hdxe⟩ : ∃ x, dxN d = x := ⟨_, rfl⟩
  obtain ⟨dy, hdye⟩ : ∃ x, dyN d = x := ⟨_, rfl⟩
  rw [hdxe] at hdx HT ⊢
  rw [hdye] at hdy HT ⊢
  have c0 : w1.cell? ⟨p, 0, none⟩ = some (.int .i64 g.w) := HS1.out.cell HP.out rfl
  have c1 : w1.cell? ⟨p, 1, none⟩ = some (.int .i64 g.h) := HS1.out.cell HP.out rfl
  have c2 : w1.cell? ⟨p, 2, none⟩ = some (.slice (some ⟨r, 0, none⟩) g.fr.length g.fr.length) := HS1.out.cell HP.out rfl
  have k1 := HE.out.1
  have k2 := HE.out.2
  have k3 : IntKind.i64.wrap (x0 + dx) = x0 + dx := wrap_small (by omega) (by omega)
  have k4 : IntKind.i64.wrap (y0 + dy) = y0 + dy := wrap_small (by omega) (by omega)
  have k5 : ((g.w : Int) == 0) = false := by simp; omega
  clear hx0 hy0
  go_wp2_with fail
  go_quiet (fail)
  have HS2 := Lib.hid (HS1.out.drewN (n := nq))
  have HB2 := Lib.hid (below_drewN (k := nq) HB1.out)
  generalize w1.drewN nq = w2 at HS2 HB2 ⊢
  clear c0 c1 c2 k1 k2 k3 k4 k5 HS1 HB1
  have c0 : w2.cell? ⟨p, 0, none⟩ = some (.int .i64 g.w) := HS2.out.cell HP.out rfl
  have c1 : w2.cell? ⟨p, 1, none⟩ = some (.int .i64 g.h) := HS2.out.cell HP.out rfl
  have c2 : w2.cell? ⟨p, 2, none⟩ = some (.slice (some ⟨r, 0, none⟩) g.fr.length g.fr.length) := HS2.out.cell HP.out rfl
  obtain ⟨X, hX⟩ : ∃ X, x0 + dx = X := ⟨_, rfl⟩
  obtain ⟨Y, hY⟩ : ∃ Y, y0 + dy = Y := ⟨_, rfl⟩
  have hXb : -1 ≤ X ∧ X ≤ 32 := by omega
  have hYb : -1 ≤ Y ∧ Y ≤ 32 := by omega
  rw [hX, hY] at HT
  try rw [hX]
  try rw [hY]
  have Hxy := Lib.hid (And.intro hX hY)
  clear hX hY hdxe hdye
  have out : g.is X Y = false → R = -1 := fun h => by rw [HT.out, h]; rfl
  have isf : ¬ (0 ≤ X ∧ X < g.w ∧ 0 ≤ Y ∧ Y < g.h) → g.is X Y = false := fun h => by simp [Gd.is, h]
  by_cases a1 : X < 0
  · have HQ := Lib.hid (out (isf (by omega)))
    clear out isf
    go_wp2_with fail
    go_quiet (fail)
    go_wp2_with fail
    go_ret
    exact ⟨by rw [HQ.out]; rfl, below_drewN HB2.out⟩
  have b1 : decide (X < 0) = false := decide_eq_false a1
  by_cases a2 : (g.w : Int) ≤ X
  · have HQ := Lib.hid (out (isf (by omega)))
    clear out isf
    go_wp2_with fail
    go_quiet (fail)
    go_wp2_with fail
    go_ret
    exact ⟨by rw [HQ.out]; rfl, below_drewN HB2.out⟩
  have b2 : decide ((g.w : Int) ≤ X) = false := decide_eq_false a2
  by_cases a3 : Y < 0
  · have HQ := Lib.hid (out (isf (by omega)))
    clear out isf
    go_wp2_with fail
    go_quiet (fail)
    go_wp2_with fail
    go_ret
    exact ⟨by rw [HQ.out]; rfl, below_drewN HB2.out⟩
  have b3 : decide (Y < 0) = false := decide_eq_false a3
  by_cases a4 : (g.h : Int) ≤ Y
  · have HQ := Lib.hid (out (isf (by omega)))
    clear out isf
    go_wp2_with fail
    go_quiet (fail)
    go_wp2_with fail
    go_ret
    exact ⟨by rw [HQ.out]; rfl, below_drewN HB2.out⟩
  have b4 : decide ((g.h : Int) ≤ Y) = false := decide_eq_false a4
  have hrow := row_nonneg (w := g.w) (x := X) (y := Y) (by omega) (by omega) (by omega)
  have hmul : Y * (g.w : Int) ≤ ((g.h : Int) - 1) * g.w := Int.mul_le_mul_of_nonneg_right (by omega) (by omega)
  have hmul2 : ((g.h : Int) - 1) * g.w = g.h * g.w - g.w := by rw [Int.sub_mul, Int.one_mul]
  have hmul3 : (g.h : Int) * g.w ≤ 32 * 32 := Int.mul_le_mul (by omega) (by omega) (by omega) (by omega)
  have hmul0 : 0 ≤ Y * (g.w : Int) := Int.mul_nonneg (by omega) (by omega)
  have hlen : (g.fr.length : Int) = g.h * g.w := by rw [ok.len, Int.mul_comm]; simp
  obtain ⟨K, hK⟩ := Int.eq_ofNat_of_zero_le hrow
  have hKl : K < g.fr.length := by omega
  obtain ⟨b, hb⟩ : ∃ b, g.fr[K]? = some b := ⟨g.fr[K], by simp [hKl]⟩
  have hbf : g.is X Y = b := by
    have h1 : g.fre (Y * g.w + X) = b := by rw [hK]; exact fre_get (by omega) (by simpa using hb)
    unfold Gd.is
    rw [h1]
    simp; intros; omega
  have HQ : Hid (R = if b = true then (K : Int) else -1) := by
    have := HT.out
    rw [hbf, hK] at this
    exact this
  have cr : w2.cell? ⟨r, K, none⟩ = some (.bool b) := HS2.out.cell HR.out (bools_get hb)
  have m0 : IntKind.i64.wrap (Y * (g.w : Int)) = Y * g.w := wrap_small (by omega) (by omega)
  have m1 : IntKind.i64.wrap (Y * (g.w : Int) + X) = (K : Int) := by rw [hK]; exact wrap_small (by omega) (by omega)
  have m2 : (K : Int) < (g.fr.length : Int) := by omega
  have Hln := Lib.hid hlen
  clear out isf hb hbf HT hmul hmul2 hmul3 hmul0 hlen hK hrow
  cases b
  · go_wp2_with fail
    go_quiet (fail)
    go_wp2_with fail
    go_ret
    exact ⟨by rw [HQ.out]; rfl, below_drewN HB2.out⟩
  · go_wp2_with fail
    go_quiet (fail)
    clear cr c2
    have c0 := (HS2.out.drewN (n := nq)).cell (off := 0) HP.out rfl
    go_wp2_with fail
    go_ret
    exact ⟨by rw [HQ.out]; rfl, below_drewN HB2.out⟩
end
end Go.Proofs.YtmabanabdoalaaaDoor
