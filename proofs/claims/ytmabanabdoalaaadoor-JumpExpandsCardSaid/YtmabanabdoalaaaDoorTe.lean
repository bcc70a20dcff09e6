/- From what the row's form says of a grid and a slice of numbers to known blocks. -/
import Derived.Test.YtmabanabdoalaaaDoorTc
import Derived.Test.YtmabanabdoalaaaDoorJo
namespace Go.Proofs.YtmabanabdoalaaaDoor
open Go.ChangeShapes Go.WideShapes Go.ChangeAt Go.RowKit Go.Deep
section
variable {H : Type} {enc : TypeId × Value → H} {W : World} {held : Bool}
set_option maxRecDepth 100000 in
theorem open_gridV {base : Nat} {v : Value} {x : DataW H × List MemPlace} (hv : Value.okWide Tryd.prog W .any base 23 v) (h : ∃ fuel, DataW.trod enc Tryd.prog W 0 (fun _ => true) held fuel 23 v.cells.toList = some x) :
    ∃ a : Gr, v = a.val := by
  obtain ⟨cs, rfl, hsz⟩ := okWide_struct Tryd.underlying23 hv
  obtain ⟨fuel, h⟩ := h
  obtain ⟨cs⟩ := cs
  simp only [Value.cells] at h
  obtain ⟨a, rfl⟩ := open_grid h
  exact ⟨a, rfl⟩
set_option maxRecDepth 100000 in
theorem open_ints {base : Nat} {v : Value} {x : DataW H × List MemPlace} (hv : Value.okWide Tryd.prog W .any base 24 v) (h : ∃ fuel, DataW.trod enc Tryd.prog W 0 (fun _ => true) held fuel 24 v.cells.toList = some x) :
    ∃ xs : List Int, Sl encI 1 (old W) v xs := by
  obtain ⟨a, l, c, rfl⟩ : ∃ a l c, v = .slice a l c := okWide_slice Tryd.underlying24 hv
  obtain ⟨fuel, h⟩ := h
  exact one_slice h
end
end Go.Proofs.YtmabanabdoalaaaDoor
