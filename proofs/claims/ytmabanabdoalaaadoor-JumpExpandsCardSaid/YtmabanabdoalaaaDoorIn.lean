/- Lists of numbers and of bools as cells. Plain lists. -/
import Derived.Test.YtmabanabdoalaaaDoorFl
import Derived.Test.YtmabanabdoalaaaDoorRoA
namespace Go.Proofs.YtmabanabdoalaaaDoor
open Go.RowKit

def encI (x : Int) : List Value := [.int .i64 x]
theorem encI_len (x : Int) : (encI x).length = 1 := rfl
def flatI (es : List Int) : List Value := es.flatMap encI
theorem flatI_map (es : List Int) : flatI es = es.map (Value.int .i64) := by
  induction es with
  | nil => rfl
  | cons e es ih => simp [flatI, encI] at ih ⊢; exact ih
theorem flatI_len (es : List Int) : (flatI es).length = es.length := by rw [flatI_map]; simp
theorem flatI_append (xs ys : List Int) : flatI (xs ++ ys) = flatI xs ++ flatI ys := by simp [flatI]
theorem flatI_get {es : List Int} {sp : List Value} {i : Nat} {x : Int} (hx : es[i]? = some x) : (flatI es ++ sp).toArray[i]? = some (.int .i64 x) := by
  have hl := (List.getElem?_eq_some_iff.1 hx).1
  rw [flatI_map]
  simp only [List.getElem?_toArray]
  rw [List.getElem?_append_left (by simpa using hl)]
  simp [hx]
theorem flatI_one (l : List Int) : ∀ u ∈ flatI l, u.oneCell' = true := by
  intro u hu
  rw [flatI_map] at hu
  obtain ⟨x, _, rfl⟩ := List.mem_map.1 hu
  rfl
theorem bools_get {es : List Bool} {i : Nat} {x : Bool} (hx : es[i]? = some x) : (es.map Value.bool).toArray[i]? = some (.bool x) := by simp [hx]
theorem add_plain' (b off j : Nat) : (⟨b, off, none⟩ : Addr).add j = ⟨b, off + j, none⟩ := by unfold Addr.add; split <;> simp_all
end Go.Proofs.YtmabanabdoalaaaDoor
