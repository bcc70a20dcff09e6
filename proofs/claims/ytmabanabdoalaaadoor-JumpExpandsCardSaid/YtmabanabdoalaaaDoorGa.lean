/- Package steps: has, Free, Len, shift, to. -/
import Derived.Test.YtmabanabdoalaaaDoorGd
import Derived.Test.YtmabanabdoalaaaDoorIn
import Derived.StillTailTactics
import Derived.Deep.LoopGhost
namespace Go.Proofs.YtmabanabdoalaaaDoor
open Go.RowKit

/-- a ground stands at p -/
def GdIn (L : List (Nat × Obj)) (p : Nat) (g : Gd) : Prop :=
  ∃ r, (p, Obj.cells #[.int .i64 g.w, .int .i64 g.h, .slice (some ⟨r, 0, none⟩) g.fr.length g.fr.length] 93 (0, 0)) ∈ L ∧
    (r, Obj.cells (g.fr.map Value.bool).toArray 4 (0, 0)) ∈ L
theorem GdIn.mono {L M : List (Nat × Obj)} {p : Nat} {g : Gd} (h : GdIn L p g) (hs : ∀ x ∈ L, x ∈ M) : GdIn M p g := by
  obtain ⟨r, h1, h2⟩ := h
  exact ⟨r, hs _ h1, hs _ h2⟩
def Gd.has (g : Gd) (t : Int) : Bool := decide (0 ≤ t) && decide (t < g.fr.length)
theorem has_fre {g : Gd} {t : Int} (h : g.has t = false) : g.fre t = false := by
  cases hf : g.fre t with
  | false => rfl
  | true =>
    have := fre_bd hf
    simp [Gd.has] at h
    omega

section
variable {W w : World} {L : List (Nat × Obj)} {p : Nat} {g : Gd}

theorem has_any (hS : SH W w L) (hG : GdIn L p g) (t : Int) :
    Calls Tryd.prog 53 #[.pointer (some ⟨p, 0, none⟩), .int .i64 t] w fun e w' => e = .returned (.bool (g.has t)) ∧ w = w' := by
  obtain ⟨r, hp, _⟩ := hG
  have c2 : w.cell? ⟨p, 2, none⟩ = some (.slice (some ⟨r, 0, none⟩) g.fr.length g.fr.length) := hS.cell hp rfl
  clear hS hp
  generalize hb : g.has t = b
  have HB := Lib.hid hb
  clear hb
  by_cases h0 : 0 ≤ t
  · go_enter Tryd.func53, Tryd.ntmps53
    go_wp2_with fail
    go_ret
    exact ⟨by rw [← HB.out]; simp [Gd.has, h0], rfl⟩
  · go_enter Tryd.func53, Tryd.ntmps53
    go_wp2_with fail
    go_ret
    exact ⟨by rw [← HB.out]; simp [Gd.has]; omega, rfl⟩

theorem len_any (hS : SH W w L) (hG : GdIn L p g) :
    Calls Tryd.prog 37 #[.pointer (some ⟨p, 0, none⟩)] w fun e w' => e = .returned (.int .i64 g.fr.length) ∧ w = w' := by
  obtain ⟨r, hp, _⟩ := hG
  have c2 : w.cell? ⟨p, 2, none⟩ = some (.slice (some ⟨r, 0, none⟩) g.fr.length g.fr.length) := hS.cell hp rfl
  clear hS hp
  go_enter Tryd.func37, Tryd.ntmps37
  go_wp2_with fail
  go_ret
  exact ⟨rfl, rfl⟩

theorem fre_any (hS : SH W w L) (hG : GdIn L p g) (t : Int) :
    Calls Tryd.prog 35 #[.pointer (some ⟨p, 0, none⟩), .int .i64 t] w fun e w' => e = .returned (.bool (g.fre t)) ∧ w = w' := by
  have HS := Lib.hid (And.intro hS hG)
  obtain ⟨r, hp, hr⟩ := hG
  have c2 : w.cell? ⟨p, 2, none⟩ = some (.slice (some ⟨r, 0, none⟩) g.fr.length g.fr.length) := hS.cell hp rfl
  cases hh : g.has t with
  | false =>
    have hf := has_fre hh
    rw [hf]
    have HH := Lib.hid hh
    clear hS hp hr hh hf
    go_enter Tryd.func35, Tryd.ntmps35
    go_wp2_with fail
    refine (has_any HS.out.1 HS.out.2 t).mono ?_
    rintro e w1 ⟨rfl, rfl⟩
    rw [HH.out]
    go_wp2_with fail
    go_ret
    exact ⟨rfl, rfl⟩
  | true =>
    have h2 : 0 ≤ t ∧ t < g.fr.length := by simpa [Gd.has] using hh
    obtain ⟨k, rfl⟩ := Int.eq_ofNat_of_zero_le h2.1
    have hk : k < g.fr.length := by omega
    obtain ⟨b, hb⟩ : ∃ b, g.fr[k]? = some b := ⟨g.fr[k], by simp [hk]⟩
    have cr : w.cell? ⟨r, k, none⟩ = some (.bool b) := hS.cell hr (bools_get hb)
    have hf : g.fre (k : Int) = b := fre_get h2.1 (by simpa using hb)
    rw [hf]
    have HH := Lib.hid hh
    clear hS hp hr hh hf hb h2
    go_enter Tryd.func35, Tryd.ntmps35
    go_wp2_with fail
    refine (has_any HS.out.1 HS.out.2 k).mono ?_
    rintro e w1 ⟨rfl, rfl⟩
    rw [HH.out]
    go_wp2_with fail
    go_ret
    exact ⟨rfl, rfl⟩

theorem shift_any (d : Nat) (h8 : d < 8) (w : World) :
    Calls Tryd.prog 63 #[.int .i64 d] w fun e w' => e = .returned (.tuple #[.int .i64 (dxN d), .int .i64 (dyN d)]) ∧ Below w.heap.size w w' := by
  match d, h8 with
  | 0, _ | 1, _ | 2, _ | 3, _ | 4, _ | 5, _ | 6, _ | 7, _ =>
    simp only [dxN, dyN]
    go_enter Tryd.func63, Tryd.ntmps63
    go_wp2_with fail
    go_region
    all_goals
      go_wp2_with fail
      go_ret2
      exact ⟨rfl, below_drew (below_alloc _ _)⟩
end
end Go.Proofs.YtmabanabdoalaaaDoor
