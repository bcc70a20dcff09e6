/- From what the rows' form says of the laws' arguments to known blocks: grids, slices of numbers, what the laws ask. -/
import Derived.Test.YtmabanabdoalaaaDoorJa
import Derived.Test.YtmabanabdoalaaaDoorLaws
import Derived.Lib.SmallJoins
namespace Go.Proofs.YtmabanabdoalaaaDoor
open Go.ChangeShapes Go.WideShapes Go.ChangeAt Go.RowKit Go.Deep

theorem cellsAsk : Tryd.prog.cellsOf 26 = 8 := by kernel_rfl
theorem cellsGrid : Tryd.prog.cellsOf 23 = 5 := by kernel_rfl
theorem cellsInt : Tryd.prog.cellsOf 3 = 1 := by kernel_rfl
theorem cellsInts : Tryd.prog.cellsOf 24 = 1 := by kernel_rfl
theorem fld {β : Type} {o : Option β} {xs : List β} {i : Nat} (h : o = xs[i]?) (hl : i < xs.length) : ∃ y, o = some y := ⟨xs[i], by rw [h]; simp [hl]⟩
theorem list8 {α : Type} {l : List α} (h : l.length = 8) : ∃ c0 c1 c2 c3 c4 c5 c6 c7, l = [c0, c1, c2, c3, c4, c5, c6, c7] := by
  match l, h with
  | [c0, c1, c2, c3, c4, c5, c6, c7], _ => exact ⟨c0, c1, c2, c3, c4, c5, c6, c7, rfl⟩
theorem list5 {α : Type} {l : List α} (h : l.length = 5) : ∃ c0 c1 c2 c3 c4, l = [c0, c1, c2, c3, c4] := by
  match l, h with
  | [c0, c1, c2, c3, c4], _ => exact ⟨c0, c1, c2, c3, c4, rfl⟩
section
variable {H : Type} {enc : TypeId × Value → H} {W : World} {held : Bool}
theorem one_int {n : Nat} {u : Value} {x : DataW H × List MemPlace} (h : DataW.trod enc Tryd.prog W 0 (fun _ => true) held n 3 [u] = some x) : ∃ a, u = .int .i64 a := by
  obtain ⟨a, ha, _⟩ := decInt Tryd.underlying3 h
  exact ⟨a, (List.cons.inj (show [u] = _ from ha)).1⟩
theorem one_slice {n : Nat} {u : Value} {x : DataW H × List MemPlace} (h : DataW.trod enc Tryd.prog W 0 (fun _ => true) held n 24 [u] = some x) : ∃ xs : List Int, Sl encI 1 (old W) u xs := by
  have hs : ∃ a l c, u = .slice a l c := by
    rcases open_slice Tryd.underlying24 h with ⟨hcs, _⟩ | ⟨a', len, cap, m, n, D, Pl, hcs, _⟩
    · simp at hcs; exact ⟨_, _, _, hcs⟩
    · simp at hcs; exact ⟨_, _, _, hcs⟩
  obtain ⟨a, l, c, rfl⟩ := hs
  have hk : ∃ fuel, DataW.trod enc Tryd.prog W 0 (fun _ => true) held fuel 24 (Value.slice a l c).cells.toList = some x := ⟨n, h⟩
  obtain ⟨xs, hx, _⟩ := openSl (P := Tryd.prog) encI (fun _ => True) Tryd.underlying24 cellsInt (by decide) (fun n cs x h => by
    obtain ⟨a, ha, _⟩ := decInt Tryd.underlying3 h
    exact ⟨a, ha, trivial⟩) ⟨a, l, c, rfl⟩ hk
  exact ⟨xs, hx⟩
theorem open_grid {n : Nat} {cs : List Value} {x : DataW H × List MemPlace} (h : DataW.trod enc Tryd.prog W 0 (fun _ => true) held n 23 cs = some x) : ∃ a : Gr, cs = [.int .i64 a.w, .int .i64 a.h, .int .i64 a.s, .int .i64 a.x, .int .i64 a.y] := by
  obtain ⟨xs, m, _, _, hl, hlen, hf⟩ := DataW.trod_struct Tryd.underlying23 h
  rw [cellsGrid] at hl
  have hlen5 : xs.length = 5 := hlen
  obtain ⟨a, b, c, d, e, rfl⟩ := list5 hl
  have g0 : DataW.trod enc Tryd.prog W 0 (fun _ => true) held m 3 (([a, b, c, d, e].drop 0).take (Tryd.prog.cellsOf 3)) = xs[0]? := by
    have h := hf 0 _ rfl
    exact h
  have g1 : DataW.trod enc Tryd.prog W 0 (fun _ => true) held m 3 (([a, b, c, d, e].drop 1).take (Tryd.prog.cellsOf 3)) = xs[1]? := by
    have h := hf 1 _ rfl
    exact h
  have g2 : DataW.trod enc Tryd.prog W 0 (fun _ => true) held m 3 (([a, b, c, d, e].drop 2).take (Tryd.prog.cellsOf 3)) = xs[2]? := by
    have h := hf 2 _ rfl
    exact h
  have g3 : DataW.trod enc Tryd.prog W 0 (fun _ => true) held m 3 (([a, b, c, d, e].drop 3).take (Tryd.prog.cellsOf 3)) = xs[3]? := by
    have h := hf 3 _ rfl
    exact h
  have g4 : DataW.trod enc Tryd.prog W 0 (fun _ => true) held m 3 (([a, b, c, d, e].drop 4).take (Tryd.prog.cellsOf 3)) = xs[4]? := by
    have h := hf 4 _ rfl
    exact h
  rw [cellsInt] at g0 g1 g2 g3 g4
  obtain ⟨_, g0⟩ := fld g0 (by omega)
  obtain ⟨_, g1⟩ := fld g1 (by omega)
  obtain ⟨_, g2⟩ := fld g2 (by omega)
  obtain ⟨_, g3⟩ := fld g3 (by omega)
  obtain ⟨_, g4⟩ := fld g4 (by omega)
  obtain ⟨a, rfl⟩ := one_int g0
  obtain ⟨b, rfl⟩ := one_int g1
  obtain ⟨c, rfl⟩ := one_int g2
  obtain ⟨d, rfl⟩ := one_int g3
  obtain ⟨e, rfl⟩ := one_int g4
  exact ⟨⟨a, b, c, d, e⟩, rfl⟩
set_option maxRecDepth 100000 in
theorem open_ask {base : Nat} {v : Value} {x : DataW H × List MemPlace} (hv : Value.okWide Tryd.prog W .any base 26 v) (h : ∃ fuel, DataW.trod enc Tryd.prog W 0 (fun _ => true) held fuel 26 v.cells.toList = some x) :
    ∃ (a : Gr) (u : Value) (xs : List Int) (s t : Int), v = askV a u s t ∧ Sl encI 1 (old W) u xs := by
  obtain ⟨cs, rfl, hsz⟩ := okWide_struct Tryd.underlying26 hv
  obtain ⟨fuel, h⟩ := h
  rw [cellsAsk] at hsz
  obtain ⟨cs⟩ := cs
  simp only [Value.cells] at h
  obtain ⟨xs, m, _, _, hl, hlen, hf⟩ := DataW.trod_struct Tryd.underlying26 h
  have hlen4 : xs.length = 4 := hlen
  have hl8 : cs.length = 8 := hsz
  clear hsz hl
  obtain ⟨c0, c1, c2, c3, c4, c5, c6, c7, rfl⟩ := list8 hl8
  have g0 : DataW.trod enc Tryd.prog W 0 (fun _ => true) held m 23 (([c0, c1, c2, c3, c4, c5, c6, c7].drop 0).take (Tryd.prog.cellsOf 23)) = xs[0]? := by
    have h := hf 0 _ rfl
    exact h
  have g1 : DataW.trod enc Tryd.prog W 0 (fun _ => true) held m 24 (([c0, c1, c2, c3, c4, c5, c6, c7].drop 5).take (Tryd.prog.cellsOf 24)) = xs[1]? := by
    have h := hf 1 _ rfl
    exact h
  have g2 : DataW.trod enc Tryd.prog W 0 (fun _ => true) held m 3 (([c0, c1, c2, c3, c4, c5, c6, c7].drop 6).take (Tryd.prog.cellsOf 3)) = xs[2]? := by
    have h := hf 2 _ rfl
    exact h
  have g3 : DataW.trod enc Tryd.prog W 0 (fun _ => true) held m 3 (([c0, c1, c2, c3, c4, c5, c6, c7].drop 7).take (Tryd.prog.cellsOf 3)) = xs[3]? := by
    have h := hf 3 _ rfl
    exact h
  rw [cellsGrid] at g0
  rw [cellsInts] at g1
  rw [cellsInt] at g2 g3
  obtain ⟨_, g0⟩ := fld g0 (by omega)
  obtain ⟨_, g1⟩ := fld g1 (by omega)
  obtain ⟨_, g2⟩ := fld g2 (by omega)
  obtain ⟨_, g3⟩ := fld g3 (by omega)
  obtain ⟨a, ha⟩ := open_grid g0
  obtain ⟨ys, hy⟩ := one_slice g1
  obtain ⟨s, rfl⟩ := one_int g2
  obtain ⟨t, rfl⟩ := one_int g3
  simp only [List.drop_zero, List.take_succ_cons, List.take_zero, List.cons.injEq, and_true] at ha
  obtain ⟨rfl, rfl, rfl, rfl, rfl⟩ := ha
  exact ⟨a, c5, ys, s, t, rfl, hy⟩
end
end Go.Proofs.YtmabanabdoalaaaDoor
