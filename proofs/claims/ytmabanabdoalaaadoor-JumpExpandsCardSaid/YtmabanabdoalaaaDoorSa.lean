/- Package steps: Guess; paddocknum.SameInts; paddockref18.Jump. -/
import Derived.Test.YtmabanabdoalaaaDoorRc
import Derived.Test.YtmabanabdoalaaaDoorGf
import Derived.WalkLawsBesides
namespace Go.Proofs.YtmabanabdoalaaaDoor
open Go.RowKit

def absM (n : Int) : Int := max n (-n)
def guessXY (x y : Int) : Int := 14 * min (absM x) (absM y) + 10 * (max (absM x) (absM y) - min (absM x) (absM y))
/-- what a walk costs at least -/
def Gd.guess (g : Gd) (a b : Int) : Int := guessXY (a % g.w - b % g.w) (a / g.w - b / g.w)
theorem guessXY_bd {x y : Int} (h : -31 ≤ x ∧ x ≤ 31) (h2 : -31 ≤ y ∧ y ≤ 31) : 0 ≤ guessXY x y ∧ guessXY x y ≤ 800 := by
  unfold guessXY absM; omega
theorem has_of_fre {g : Gd} {t : Int} (h : g.fre t = true) : g.has t = true := by
  have := fre_bd h
  simp [Gd.has]; omega
theorem guess_bd {g : Gd} (ok : GdOk g) {a b : Int} (ha : g.fre a = true) (hb : g.fre b = true) : 0 ≤ g.guess a b ∧ g.guess a b ≤ 800 := by
  have h1 := tile_bd ok ha
  have h2 := tile_bd ok hb
  have h3 := ok.w2
  have h4 := ok.h2
  exact guessXY_bd (by omega) (by omega)

theorem ret_int2 {a b : Int} (h : a = b) : Ending.returned (.tuple #[.int .i64 a, .nilIface]) = .returned (.tuple #[.int .i64 b, .nilIface]) := by rw [h]
section
variable {W w : World} {L : List (Nat × Obj)} {p : Nat} {g : Gd}
set_option maxHeartbeats 1600000 in
theorem guess_ok (ok : GdOk g) (hS : SH W w L) (hG : GdIn L p g) {a b : Int} (ha : g.fre a = true) (hb : g.fre b = true) :
    Calls Tryd.prog 67 #[.pointer (some ⟨p, 0, none⟩), .int .i64 a, .int .i64 b] w fun e w' => e = .returned (.tuple #[.int .i64 (g.guess a b), .nilIface]) ∧ Below w.heap.size w w' := by
  have HS := Lib.hid hS
  have HG := Lib.hid hG
  obtain ⟨r, hp, _⟩ := hG
  have c0 : w.cell? ⟨p, 0, none⟩ = some (.int .i64 g.w) := hS.cell hp rfl
  have h1 := tile_bd ok ha
  have h2 := tile_bd ok hb
  have h3 := ok.w2
  have h4 := ok.h2
  have h5 := ok.w1
  have ba := fre_bd ha
  have bb := fre_bd hb
  have HH := Lib.hid (And.intro (has_of_fre ha) (has_of_fre hb))
  have e1 : a.tmod (g.w : Int) = a % g.w := Int.tmod_eq_emod_of_nonneg ba.1
  have e2 : a.tdiv (g.w : Int) = a / g.w := Int.tdiv_eq_ediv_of_nonneg ba.1
  have e3 : b.tmod (g.w : Int) = b % g.w := Int.tmod_eq_emod_of_nonneg bb.1
  have e4 : b.tdiv (g.w : Int) = b / g.w := Int.tdiv_eq_ediv_of_nonneg bb.1
  unfold Gd.guess
  obtain ⟨x1, hx1⟩ : ∃ x, a % (g.w : Int) = x := ⟨_, rfl⟩
  obtain ⟨y1, hy1⟩ : ∃ y, a / (g.w : Int) = y := ⟨_, rfl⟩
  obtain ⟨x2, hx2⟩ : ∃ x, b % (g.w : Int) = x := ⟨_, rfl⟩
  obtain ⟨y2, hy2⟩ : ∃ y, b / (g.w : Int) = y := ⟨_, rfl⟩
  rw [hx1, hy1, hx2, hy2]
  rw [hx1, hy1] at h1
  rw [hx2, hy2] at h2
  rw [hx1] at e1
  rw [hy1] at e2
  rw [hx2] at e3
  rw [hy2] at e4
  have HE := Lib.hid (And.intro e1 (And.intro e2 (And.intro e3 e4)))
  obtain ⟨x, hx⟩ : ∃ x, x1 - x2 = x := ⟨_, rfl⟩
  obtain ⟨y, hy⟩ : ∃ y, y1 - y2 = y := ⟨_, rfl⟩
  rw [hx, hy]
  have bx : -31 ≤ x ∧ x ≤ 31 := by omega
  have by' : -31 ≤ y ∧ y ≤ 31 := by omega
  have HXY := Lib.hid (And.intro hx hy)
  clear e1 e2 e3 e4 hx1 hx2 hy1 hy2 ba bb ha hb hS hp hx hy
  go_enter Tryd.func67, Tryd.ntmps67
  go_wp2_with fail
  refine (has_any HS.out HG.out a).mono ?_
  rintro e w1 ⟨rfl, rfl⟩
  rw [HH.out.1]
  go_wp2_with fail
  refine (has_any HS.out HG.out b).mono ?_
  rintro e w1 ⟨rfl, rfl⟩
  rw [HH.out.2]
  have e1 := HE.out.1
  have e2 := HE.out.2.1
  have e3 := HE.out.2.2.1
  have e4 := HE.out.2.2.2
  have q5 : ((g.w : Int) == 0) = false := by simp; omega
  have m1 : IntKind.i64.wrap (x1 - x2) = x1 - x2 := wrap_small (by omega) (by omega)
  have m2 : IntKind.i64.wrap (y1 - y2) = y1 - y2 := wrap_small (by omega) (by omega)
  go_wp2_with fail
  go_quiet (fail)
  clear c0 e1 e2 e3 e4 q5 m1 m2
  rw [HXY.out.1, HXY.out.2]
  clear h1 h2
  have m1 : IntKind.i64.wrap (-x) = -x := wrap_small (by omega) (by omega)
  have m2 : IntKind.i64.wrap (-y) = -y := wrap_small (by omega) (by omega)
  have HB := Lib.hid (below_drewN (k := nq) (Below.refl w.heap.size w))
  generalize w.drewN nq = w2 at HB ⊢
  clear HE HH HS HG h3 h4 h5
  by_cases sx : x < -x <;> by_cases sy : y < -y
  all_goals
    go_wp2_with fail
    all_goals
      go_ret2
      exact ⟨ret_int2 (by unfold guessXY absM; omega), HB.out⟩
end
end Go.Proofs.YtmabanabdoalaaaDoor
