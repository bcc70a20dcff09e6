/- Package heap: what ahead and swap do. -/
import Derived.Test.YtmabanabdoalaaaDoorFl
namespace Go.Proofs.YtmabanabdoalaaaDoor
open Go.RowKit

def ahead (a b : Int × Int) : Bool := decide (a.1 < b.1 ∨ a.1 = b.1 ∧ a.2 < b.2)
set_option maxHeartbeats 400000 in
theorem ahead_any (k v k' v' : Int) (w : World) :
    Calls Tryd.prog 81 #[.agg #[.int .i64 k, .int .i64 v], .agg #[.int .i64 k', .int .i64 v']] w fun e w' => e = .returned (.bool (ahead (k, v) (k', v'))) ∧ Below w.heap.size w w' := by
  generalize hR : ahead (k, v) (k', v') = R
  have HR : Hid (ahead (k, v) (k', v') = R) := hR
  clear hR
  go_enter Tryd.func81, Tryd.ntmps81
  go_wp2
  all_goals
    go_ret
    refine ⟨?_, ((Below.refl _ _).alloc (Nat.le_refl _) _).alloc (by simp) _⟩
    rw [← HR.out]
    show Ending.returned (.bool _) = _
    congr 2
    simp only [ahead]
    first
      | (rw [eq_comm, decide_eq_true_iff]; omega)
      | (rw [eq_comm, decide_eq_false_iff_not]; omega)
      | (apply decide_eq_decide.2; omega)

/-- the blocks of a heap: its struct, its row (r, cap, what lies behind) -/
def hpL (p : Nat) (es : List (Int × Int)) (r cap : Nat) (sp : List Value) : List (Nat × Obj) :=
  [(p, .cells #[.slice (some ⟨r, 0, none⟩) es.length cap] 106 (0, 0)), (r, .cells (flatE es ++ sp).toArray 110 (0, 0))]
def swp (es : List (Int × Int)) (i j : Nat) : List (Int × Int) := (es.set i (es.getD j (0, 0))).set j (es.getD i (0, 0))
def swpIf (b : Bool) (es : List (Int × Int)) (i j : Nat) : List (Int × Int) := if b then swp es i j else es
theorem swp_len (es : List (Int × Int)) (i j : Nat) : (swp es i j).length = es.length := by simp [swp]

theorem swap_close {W w : World} {L : List (Nat × Obj)} {p r cap : Nat} {es : List (Int × Int)} {sp : List Value} (h : SH W w (hpL p es r cap sp ++ L)) (i j : Nat) (hi : i < es.length) (hj : j < es.length) (x y : Int × Int)
    (hx : es.getD i (0, 0) = x) (hy : es.getD j (0, 0) = y) :
    SH W ((((w.setCell ⟨r, i * 2, none⟩ (.int .i64 y.1)).setCell ⟨r, i * 2 + 1, none⟩ (.int .i64 y.2)).setCell ⟨r, j * 2, none⟩ (.int .i64 x.1)).setCell ⟨r, j * 2 + 1, none⟩ (.int .i64 x.2)).drew
      (hpL p (swp es i j) r cap sp ++ L) := by
  have h1 := h.perm (List.Perm.swap _ _ _)
  have h2 := (((h1.setCell (i * 2) (.int .i64 y.1)).setCell (i * 2 + 1) (.int .i64 y.2)).setCell (j * 2) (.int .i64 x.1)).setCell (j * 2 + 1) (.int .i64 x.2)
  rw [flatE_set hi y, flatE_set (by simpa using hj) x] at h2
  have h3 := (h2.perm (List.Perm.swap _ _ _)).drew
  subst hx hy
  simpa [hpL, swp] using h3

set_option maxHeartbeats 3200000 in
theorem swap_any {W w : World} {L : List (Nat × Obj)} {p r cap : Nat} {es : List (Int × Int)} {sp : List Value} (i j : Int) (hS : SH W w (hpL p es r cap sp ++ L))
    (h0 : 0 ≤ i) (h1 : 0 ≤ j) (hi : i < es.length) (hj : j < es.length) (hij : i ≠ j) (hn : es.length ≤ 100000) :
    Calls Tryd.prog 80 #[.pointer (some ⟨p, 0, none⟩), .int .i64 i, .int .i64 j] w fun e w' =>
      e = .returned (.bool (ahead (es.getD j.toNat (0, 0)) (es.getD i.toNat (0, 0)))) ∧
      SH W w' (hpL p (swpIf (ahead (es.getD j.toNat (0, 0)) (es.getD i.toNat (0, 0))) es i.toNat j.toNat) r cap sp ++ L) := by
  obtain ⟨⟨ki, vi⟩, hx⟩ : ∃ x, es[i.toNat]? = some x := ⟨es[i.toNat]'(by omega), by simp⟩
  obtain ⟨⟨kj, vj⟩, hy⟩ : ∃ x, es[j.toNat]? = some x := ⟨es[j.toNat]'(by omega), by simp⟩
  have di : es.getD i.toNat (0, 0) = (ki, vi) := by simp [hx]
  have dj : es.getD j.toNat (0, 0) = (kj, vj) := by simp [hy]
  rw [di, dj]
  have hpw : p < w.heap.size := hS.lt (.head _)
  have hrw : r < w.heap.size := hS.lt (.tail _ (.head _))
  have hp : w.cell? ⟨p, 0, none⟩ = some (.slice (some ⟨r, 0, none⟩) es.length cap) := hS.cell (.head _) rfl
  have ci0 : w.cell? ⟨r, i.toNat * 2, none⟩ = some (.int .i64 ki) := hS.cell (.tail _ (.head _)) (flatE_get0 hx)
  have ci1 : w.cell? ⟨r, i.toNat * 2 + 1, none⟩ = some (.int .i64 vi) := hS.cell (.tail _ (.head _)) (flatE_get1 hx)
  have cj0 : w.cell? ⟨r, j.toNat * 2, none⟩ = some (.int .i64 kj) := hS.cell (.tail _ (.head _)) (flatE_get0 hy)
  have cj1 : w.cell? ⟨r, j.toNat * 2 + 1, none⟩ = some (.int .i64 vj) := hS.cell (.tail _ (.head _)) (flatE_get1 hy)
  generalize hR : ahead (kj, vj) (ki, vi) = R
  have HR : Hid (ahead (kj, vj) (ki, vi) = R) := hR
  clear hR
  have HS := Lib.hid hS
  have Hx := Lib.hid (And.intro hx hy)
  have Hd := Lib.hid (And.intro di dj)
  clear hS hx hy di dj
  go_enter Tryd.func80, Tryd.ntmps80
  go_wp2_with fail
  go_region
  all_goals
    go_wp2_with fail
    refine (ahead_any _ _ _ _ _).mono ?_
    rintro e w1 ⟨rfl, hb⟩
    rw [HR.out]
    have S3 := (HS.out.alloc2 _ _).below hb
    clear hp ci0 ci1 cj0 cj1 hpw hb
    have b0 := S3.cell (off := 0) (.head _) rfl
    have b1 := S3.cell (off := 1) (.head _) rfl
    have a0 := S3.cell (off := 0) (.tail _ (.head _)) rfl
    have a1 := S3.cell (off := 1) (.tail _ (.head _)) rfl
    have S4 := S3.tail.tail
    have hp : w1.cell? ⟨p, 0, none⟩ = some (.slice (some ⟨r, 0, none⟩) es.length cap) := S4.cell (.head _) rfl
    have ci0 : w1.cell? ⟨r, i.toNat * 2, none⟩ = some (.int .i64 ki) := S4.cell (.tail _ (.head _)) (flatE_get0 Hx.out.1)
    have ci1 : w1.cell? ⟨r, i.toNat * 2 + 1, none⟩ = some (.int .i64 vi) := S4.cell (.tail _ (.head _)) (flatE_get1 Hx.out.1)
    have cj0 : w1.cell? ⟨r, j.toNat * 2, none⟩ = some (.int .i64 kj) := S4.cell (.tail _ (.head _)) (flatE_get0 Hx.out.2)
    have cj1 : w1.cell? ⟨r, j.toNat * 2 + 1, none⟩ = some (.int .i64 vj) := S4.cell (.tail _ (.head _)) (flatE_get1 Hx.out.2)
    have fi : ∀ o, w1.frozen? ⟨r, o, none⟩ = false := fun o => S4.free (.tail _ (.head _))
    have n0 : r ≠ w.heap.size := by omega
    have n1 : r ≠ w.heap.size + 1 := by omega
    have n2 : r ≠ p := (S4.ne (.head _)).symm
    have ht : i.toNat ≠ j.toNat := by omega
    have HS4 := Lib.hid S4
    clear S3 S4 hrw
    cases R
    · go_wp2_with fail
      go_ret
      exact ⟨rfl, HS4.out⟩
    · go_wp2_with fail
      go_region
      go_wp2_with fail
      go_ret
      exact ⟨rfl, swap_close HS4.out i.toNat j.toNat (by omega) (by omega) (ki, vi) (kj, vj) Hd.out.1 Hd.out.2⟩
end Go.Proofs.YtmabanabdoalaaaDoor
