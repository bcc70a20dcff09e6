/- From what the row's form says of an argument to known blocks. -/
import Derived.Test.YtmabanabdoalaaaDoorRow
import Derived.ProofKit
import Derived.OpenShut
import Derived.Deep.Slices
import Derived.Carry
namespace Go.Proofs.YtmabanabdoalaaaDoor
open Go.ChangeShapes Go.WideShapes Go.ChangeAt Go.RowKit Go.Deep

section
variable {H : Type} {enc : TypeId × Value → H} {P : Program} {W : World} {spare : Nat → Bool} {held : Bool}

theorem cells?_some {a : Addr} {n : Nat} {cs : List Value} (h : W.cells? 0 a n = some cs) : cs.length = n ∧ ∀ i, i < n → W.cell? (a.add i) = cs[i]? := by
  unfold World.cells? at h
  rw [if_pos (Nat.zero_le _)] at h
  refine ⟨by simpa using mapM_some_length h, fun i hi => ?_⟩
  exact mapM_some_get h i i (by simp [hi])
theorem cell_block {a : Addr} {v : Value} (h : W.cell? a = some v) : a.spot = none ∧ ∃ c E fr, W.heap[a.block]? = some (.cells c E fr) ∧ c[a.off]? = some v := by
  unfold World.cell? at h
  split at h
  · rename_i c E fr hb
    split at h
    · simp at h
    · rename_i hs
      exact ⟨by simpa using hs, c, E, fr, hb, h⟩
  · simp at h

theorem list_of {α : Type} {p : Nat → α → Prop} (l : Nat) (h : ∀ i, i < l → ∃ y, p i y) : ∃ xs : List α, xs.length = l ∧ ∀ i y, xs[i]? = some y → p i y := by
  induction l with
  | zero => exact ⟨[], rfl, by simp⟩
  | succ l ih =>
    obtain ⟨xs, hx1, hx2⟩ := ih (fun i hi => h i (by omega))
    obtain ⟨y, hy⟩ := h l (by omega)
    refine ⟨xs ++ [y], by simp [hx1], fun i z hz => ?_⟩
    by_cases hi : i < xs.length
    · rw [List.getElem?_append_left hi] at hz
      exact hx2 i z hz
    · rw [List.getElem?_append_right (by omega)] at hz
      have : i - xs.length = 0 := by
        rcases Nat.eq_zero_or_pos (i - xs.length) with h | h
        · exact h
        · rw [List.getElem?_eq_none (by simp; omega)] at hz; cases hz
      rw [this] at hz
      simp at hz
      subst hz
      have : i = l := by omega
      subst this
      exact hy
/-- A slice, each of whose elements is told by 'dec', as known blocks. -/
theorem openSl {α : Type} {e t : TypeId} {k : Nat} (encA : α → List Value) (Good : α → Prop) (ht : P.underlying t = some (.slice e)) (hk : P.cellsOf e = k) (hk0 : 0 < k)
    (dec : ∀ n cs x, DataW.trod enc P W 0 (fun _ => true) held n e cs = some x → ∃ a, cs = encA a ∧ Good a)
    {v : Value} {x : DataW H × List MemPlace} (hv : ∃ a l c, v = .slice a l c) (h : ∃ fuel, DataW.trod enc P W 0 (fun _ => true) held fuel t v.cells.toList = some x) :
    ∃ xs : List α, Sl encA k (old W) v xs ∧ ∀ y ∈ xs, Good y := by
  obtain ⟨a, l, c, rfl⟩ := hv
  obtain ⟨fuel, hf⟩ := h
  rcases open_slice ht hf with ⟨hcs, _⟩ | ⟨a', len, cap, m, n, D, Pl, hcs, _, hl, hc, hm, _, hel⟩
  · simp [Value.cells] at hcs
    obtain ⟨rfl, rfl, rfl⟩ := hcs
    exact ⟨[], ⟨_, _, rfl, Nat.le_refl _, .inl rfl⟩, by simp⟩
  · simp [Value.cells] at hcs
    obtain ⟨rfl, rfl, rfl⟩ := hcs
    simp only [if_true] at hm
    subst hm
    rw [hk] at hel
    have hel2 : ∀ i, i < l → ∃ (y : α), W.cells? 0 (a'.add (i * k)) k = some (encA y) ∧ Good y := by
      intro i hi
      obtain ⟨cs', h1, h2⟩ := hel i (by omega)
      obtain ⟨y, rfl, hg⟩ := dec _ _ _ h2
      exact ⟨y, h1, hg⟩
    have hch := list_of l hel2
    obtain ⟨xs, hx1, hx2⟩ := hch
    refine ⟨xs, ⟨_, _, by rw [hx1], by omega, ?_⟩, fun y hy => ?_⟩
    · by_cases h0 : xs = []
      · exact .inl h0
      · right
        obtain ⟨b, off, spot⟩ := a'
        have hpos : 0 < xs.length := List.length_pos_iff.2 h0
        have hfirst := (hx2 0 xs[0] (by simp [hpos])).1
        have h2 := (cells?_some hfirst).2 0 hk0
        rw [Nat.zero_mul] at h2
        have hlen := (cells?_some hfirst).1
        have h3 : W.cell? ⟨b, off, spot⟩ = some ((encA xs[0])[0]'(by omega)) := by
          have e : (({ block := b, off := off, spot := spot } : Addr).add 0).add 0 = { block := b, off := off, spot := spot } := rfl
          rw [e] at h2
          rw [h2]
          simp
        obtain ⟨hs, cc, E, fr, hb, _⟩ := cell_block h3
        simp only at hs hb
        subst hs
        refine ⟨b, off, cc, E, fr, rfl, mem_old.2 hb, fun i y hy j u hu => ?_⟩
        have h4 := cells?_some (hx2 i y hy).1
        have hj : j < k := by
          have := (List.getElem?_eq_some_iff.1 hu).1
          rw [h4.1] at this; exact this
        have h5 := h4.2 j hj
        rw [add_add, hu] at h5
        have e : ({ block := b, off := off, spot := none } : Addr).add (i * k + j) = ⟨b, off + i * k + j, none⟩ := by
          unfold Addr.add
          split
          · rename_i h6; rw [Nat.add_assoc, h6]; rfl
          · simp [Nat.add_assoc]
        rw [e] at h5
        simp only [World.cell?, hb] at h5
        simpa using h5
    · obtain ⟨i, hi, e⟩ := List.mem_iff_getElem.1 hy
      exact (hx2 i y (by simp [hi, e])).2
/-- an integer's cell -/
theorem decInt {q : IntKind} {t : TypeId} (ht : P.underlying t = some (.int q)) {n : Nat} {cs : List Value} {x : DataW H × List MemPlace} {base : Nat} (h : DataW.trod enc P W base spare held n t cs = some x) : ∃ a, cs = [.int q a] ∧ (Lit.int q a).wf = true := by
  cases n with
  | zero => simp [DataW.trod] at h
  | succ n =>
    unfold DataW.trod at h
    rw [ht] at h
    split at h <;> simp_all
end
end Go.Proofs.YtmabanabdoalaaaDoor
