/- Lists of values that encode lists of records of a fixed number of cells. Plain lists. -/
import Derived.Test.YtmabanabdoalaaaDoorSh
namespace Go.Proofs.YtmabanabdoalaaaDoor

section
variable {α : Type} (enc : α → List Value) (k : Nat)
theorem flat_len (hk : ∀ a, (enc a).length = k) (es : List α) : (es.flatMap enc).length = es.length * k := by
  induction es with
  | nil => simp
  | cons e es ih => simp [ih, hk, Nat.add_mul, Nat.add_comm]
theorem flat_get (hk : ∀ a, (enc a).length = k) (es : List α) (sp : List Value) (i : Nat) (x : α) (hx : es[i]? = some x) (j : Nat) (hj : j < k) :
    (es.flatMap enc ++ sp)[i * k + j]? = (enc x)[j]? := by
  induction es generalizing i with
  | nil => simp at hx
  | cons e es ih =>
    cases i with
    | zero =>
      simp at hx; subst hx
      simp only [List.flatMap_cons, List.append_assoc, Nat.zero_mul, Nat.zero_add]
      rw [List.getElem?_append_left (by rw [hk]; exact hj)]
    | succ i =>
      simp only [List.getElem?_cons_succ] at hx
      simp only [List.flatMap_cons, List.append_assoc]
      rw [List.getElem?_append_right (by rw [hk, Nat.add_mul]; omega), hk, ← ih i hx]
      congr 1
      rw [Nat.add_mul]; omega
theorem set_append_left' {β : Type} (a b : List β) (i : Nat) (v : β) (h : i < a.length) : (a ++ b).set i v = a.set i v ++ b := by
  rw [List.set_append]; simp [h]
theorem set_append_right' {β : Type} (a b : List β) (i : Nat) (v : β) (h : a.length ≤ i) : (a ++ b).set i v = a ++ b.set (i - a.length) v := by
  rw [List.set_append]; simp [Nat.not_lt.2 h]
/-- one cell of one record is set -/
theorem flat_set1 (hk : ∀ a, (enc a).length = k) (es : List α) (sp : List Value) (i : Nat) (x : α) (hx : es[i]? = some x) (j : Nat) (hj : j < k) (v : Value) (y : α) (hy : enc y = (enc x).set j v) :
    (es.flatMap enc ++ sp).set (i * k + j) v = (es.set i y).flatMap enc ++ sp := by
  induction es generalizing i with
  | nil => simp at hx
  | cons e es ih =>
    cases i with
    | zero =>
      simp at hx; subst hx
      simp only [List.flatMap_cons, List.append_assoc, Nat.zero_mul, Nat.zero_add, List.set_cons_zero]
      rw [set_append_left' _ _ _ _ (by rw [hk]; exact hj), hy]
    | succ i =>
      simp only [List.getElem?_cons_succ] at hx
      simp only [List.flatMap_cons, List.append_assoc, List.set_cons_succ]
      rw [set_append_right' _ _ _ _ (by rw [hk, Nat.add_mul]; omega), hk, ← ih i hx]
      congr 2
      rw [Nat.add_mul]; omega
end

def encE (e : Int × Int) : List Value := [.int .i64 e.1, .int .i64 e.2]
theorem encE_len (e : Int × Int) : (encE e).length = 2 := rfl
def flatE (es : List (Int × Int)) : List Value := es.flatMap encE
theorem flatE_len (es : List (Int × Int)) : (flatE es).length = es.length * 2 := flat_len encE 2 encE_len es
theorem flatE_get0 {es : List (Int × Int)} {sp : List Value} {i : Nat} {x : Int × Int} (hx : es[i]? = some x) : (flatE es ++ sp).toArray[i * 2]? = some (.int .i64 x.1) := by
  have := flat_get encE 2 encE_len es sp i x hx 0 (by omega)
  simpa [encE, flatE] using this
theorem flatE_get1 {es : List (Int × Int)} {sp : List Value} {i : Nat} {x : Int × Int} (hx : es[i]? = some x) : (flatE es ++ sp).toArray[i * 2 + 1]? = some (.int .i64 x.2) := by
  have := flat_get encE 2 encE_len es sp i x hx 1 (by omega)
  simpa [encE, flatE] using this
theorem flatE_set {es : List (Int × Int)} {sp : List Value} {i : Nat} (hi : i < es.length) (y : Int × Int) :
    ((flatE es ++ sp).toArray.setIfInBounds (i * 2) (.int .i64 y.1)).setIfInBounds (i * 2 + 1) (.int .i64 y.2) = (flatE (es.set i y) ++ sp).toArray := by
  obtain ⟨x, hx⟩ : ∃ x, es[i]? = some x := ⟨es[i], by simp [hi]⟩
  have h0 := flat_set1 encE 2 encE_len es sp i x hx 0 (by omega) (.int .i64 y.1) (y.1, x.2) rfl
  have h1 := flat_set1 encE 2 encE_len (es.set i (y.1, x.2)) sp i (y.1, x.2) (by simp [hi]) 1 (by omega) (.int .i64 y.2) y rfl
  simp only [Nat.add_zero, List.set_set] at h0 h1
  simp only [flatE, List.setIfInBounds_toArray, h0, h1]

end Go.Proofs.YtmabanabdoalaaaDoor
