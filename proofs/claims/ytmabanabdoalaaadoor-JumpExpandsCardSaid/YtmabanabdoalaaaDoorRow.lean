/- Rows that are grown by append, as blocks that are known. No program in sight. -/
import Derived.Test.YtmabanabdoalaaaDoorSh
namespace Go.Proofs.YtmabanabdoalaaaDoor
open Go.RowKit

/-- a slice of one's own: nil, or the row r with room for cap elements, sp lying behind its elements -/
abbrev St := Option (Nat × Nat × List Value)
def rowL (E : TypeId) (xs : List Value) : St → List (Nat × Obj)
  | none => []
  | some (r, _, sp) => [(r, .cells (xs ++ sp).toArray E (0, 0))]
def rowV (n : Nat) : St → Value
  | none => .slice none 0 0
  | some (r, cap, _) => .slice (some ⟨r, 0, none⟩) n cap
def rowOk (size n : Nat) (xs : List Value) : St → Prop
  | none => n = 0 ∧ xs = []
  | some (_, cap, sp) => xs.length = n * size ∧ (xs ++ sp).length = cap * size ∧ n ≤ cap ∧ cap ≤ maxLen

section
variable {W w w1 : World} {L : List (Nat × Obj)} {E : TypeId} {size n m : Nat} {xs ys : List Value} {st : St}

theorem SH.ownsRow (h : SH W w (rowL E xs st ++ L)) (ok : rowOk size n xs st) : w.ownsRow 0 E size (rowV n st) n xs := by
  cases st with
  | none => obtain ⟨rfl, rfl⟩ := ok; exact World.ownsRow_nil _ _ _ _
  | some t =>
    obtain ⟨r, cap, sp⟩ := t
    obtain ⟨h1, h2, h3, h4⟩ := ok
    exact ⟨h1, .inr ⟨r, cap, _, rfl, Nat.zero_le _, h.at (.head _), h3, h4, by simpa using h2, by simp [← h1]⟩⟩

/-- what is known behind an append -/
theorem SH.appended {v : Value} (h : SH W w (rowL E xs st ++ L)) (hg : w.grownBy w1 (rowV n st).ownBlock) {g cap : Nat} (hv : v = .slice (some ⟨g, 0, none⟩) m cap) (hown : w1.ownsRow 0 E size v m ys)
    (hat : (rowV n st).ownBlock = some g ∨ g = w.heap.size) : ∃ sp, rowOk size m ys (some (g, cap, sp)) ∧ SH W w1 (rowL E ys (some (g, cap, sp)) ++ L) := by
  subst hv
  obtain ⟨hl, h0 | ⟨g', cap', cur, hv, _, hh, hc1, hc2, hs, ht⟩⟩ := hown
  · simp at h0
  · simp only [Value.slice.injEq, Option.some.injEq, Addr.mk.injEq, and_true, true_and] at hv
    obtain ⟨rfl, rfl⟩ := hv
    have hcur : cur.toList = ys ++ cur.toList.drop (m * size) := by rw [← ht, List.take_append_drop]
    have hcur2 : cur = (ys ++ cur.toList.drop (m * size)).toArray := by rw [← hcur]
    have hlen : cur.toList.length = cap * size := by simpa using hs
    refine ⟨cur.toList.drop (m * size), ⟨hl, by rw [← hcur]; exact hlen, hc1, hc2⟩, ?_⟩
    have hL : SH W w L := by
      cases st with
      | none => exact h
      | some t => exact h.tail
    -- a block of L is not the row's own
    have hne : ∀ x ∈ L, some x.1 ≠ (rowV n st).ownBlock := by
      intro x hx
      cases st with
      | none => simp [rowV, Value.ownBlock]
      | some t =>
        obtain ⟨r, c, sp⟩ := t
        have := h.ne (b' := x.1) (o' := x.2) hx
        simp [rowV, Value.ownBlock]
        exact fun e => this e.symm
    have hL1 : SH W w1 L := ⟨hg.os.trans hL.os, hg.tape.trans hL.tape, hg.output.trans hL.output, Nat.le_trans hL.size hg.size, hL.nodup,
      fun x hx => (hg.block x.1 (hL.lt (b := x.1) (o := x.2) hx) (hne x hx)).trans (hL.get x hx)⟩
    refine ⟨hL1.os, hL1.tape, hL1.output, hL1.size, ?_, ?_⟩
    · simp only [rowL, List.cons_append, List.nil_append, List.map_cons, List.nodup_cons]
      refine ⟨fun hm => ?_, hL1.nodup⟩
      obtain ⟨x, hx, e⟩ := List.mem_map.1 hm
      rcases hat with hat | hat
      · exact hne x hx (by rw [e, hat])
      · have := hL.lt (b := x.1) (o := x.2) hx
        omega
    · intro x hx
      simp only [rowL, List.cons_append, List.nil_append, List.mem_cons] at hx
      rcases hx with rfl | hx
      · rw [hh, ← hcur2]
      · exact hL1.get x hx
end

/-- some blocks that P tells are known, and those of L beside them -/
def Own (P : List (Nat × Obj) → Prop) (W w : World) (L : List (Nat × Obj)) : Prop := ∃ M, P M ∧ SH W w (M ++ L)
section
variable {P Q : List (Nat × Obj) → Prop} {W w w' : World} {L M : List (Nat × Obj)} {b off : Nat} {o : Obj} {c : Array Value} {E : TypeId} {v : Value}
theorem Own.below (h : Own P W w L) (hb : Below w.heap.size w w') : Own P W w' L := h.imp fun _ h => ⟨h.1, h.2.below hb⟩
theorem Own.drew (h : Own P W w L) : Own P W w.drew L := h.imp fun _ h => ⟨h.1, h.2.drew⟩
theorem Own.SH (h : Own P W w L) : SH W w L := by
  obtain ⟨M, _, h⟩ := h
  exact h.sub (List.sublist_append_right _ _)
theorem Own.perm (h : Own P W w L) (p : L.Perm M) : Own P W w M := h.imp fun _ h => ⟨h.1, h.2.perm (p.append_left _)⟩
theorem Own.sub (h : Own P W w L) (p : M.Sublist L) : Own P W w M := h.imp fun _ h => ⟨h.1, h.2.sub (p.append_left _)⟩
theorem Own.tail {x : Nat × Obj} (h : Own P W w (x :: L)) : Own P W w L := h.sub (List.sublist_cons_self _ _)
theorem Own.alloc (h : Own P W w L) (o : Obj) : Own P W (w.alloc o) ((w.heap.size, o) :: L) :=
  h.imp fun _ h => ⟨h.1, (h.2.alloc o).perm (List.perm_middle.symm)⟩
theorem Own.add (h : Own P W w L) (hb : Below w.heap.size w w') (hn : w.heap.size ≤ b) (ho : w'.heap[b]? = some o) : Own P W w' ((b, o) :: L) :=
  h.imp fun _ h => ⟨h.1, (h.2.add hb hn ho).perm (List.perm_middle.symm)⟩
theorem Own.setCell {fr : Nat × Nat} (h : Own P W w ((b, .cells c E fr) :: L)) (off : Nat) (v : Value) : Own P W (w.setCell ⟨b, off, none⟩ v) ((b, .cells (c.setIfInBounds off v) E fr) :: L) :=
  h.imp fun _ h => ⟨h.1, ((h.2.perm List.perm_middle).setCell off v).perm List.perm_middle.symm⟩
theorem Own.cell {fr : Nat × Nat} (h : Own P W w L) (m : (b, Obj.cells c E fr) ∈ L) (hv : c[off]? = some v) : w.cell? ⟨b, off, none⟩ = some v := h.SH.cell m hv
theorem Own.free (h : Own P W w L) (m : (b, Obj.cells c E (0, 0)) ∈ L) : w.frozen? ⟨b, off, none⟩ = false := h.SH.free m
theorem Own.lt (h : Own P W w L) (m : (b, o) ∈ L) : b < w.heap.size := h.SH.lt m
theorem Own.toBelow (h : Own P W w (L ++ old W)) : Below W.heap.size W w := by
  obtain ⟨M, _, h⟩ := h
  exact SH.toBelow (L := M ++ L) (by simpa using h)
/-- what is known of the one kind beside the other -/
def Sep (P Q : List (Nat × Obj) → Prop) (M : List (Nat × Obj)) : Prop := ∃ A B, P A ∧ Q B ∧ M = A ++ B
theorem Own.split (h : Own (Sep P Q) W w L) : ∃ B, Q B ∧ Own P W w (B ++ L) := by
  obtain ⟨_, ⟨A, B, ha, hb, rfl⟩, h⟩ := h
  exact ⟨B, hb, A, ha, by simpa using h⟩
theorem Own.join (h : Own P W w (M ++ L)) (hq : Q M) : Own (Sep P Q) W w L := by
  obtain ⟨A, ha, h⟩ := h
  exact ⟨_, ⟨A, M, ha, hq, rfl⟩, by simpa using h⟩
theorem Own.comm (h : Own (Sep P Q) W w L) : Own (Sep Q P) W w L := by
  obtain ⟨_, ⟨A, B, ha, hb, rfl⟩, h⟩ := h
  exact ⟨_, ⟨B, A, hb, ha, rfl⟩, h.perm (List.Perm.append_right _ List.perm_append_comm)⟩
end

/-- what a slice reads: its elements by their cells, somewhere in a known block -/
def Sl {α : Type} (enc : α → List Value) (k : Nat) (L : List (Nat × Obj)) (v : Value) (xs : List α) : Prop :=
  ∃ a cap, v = .slice a xs.length cap ∧ xs.length ≤ cap ∧ (xs = [] ∨ ∃ b off c E fr, a = some ⟨b, off, none⟩ ∧ (b, Obj.cells c E fr) ∈ L ∧ ∀ i x, xs[i]? = some x → ∀ j u, (enc x)[j]? = some u → c[off + i * k + j]? = some u)
theorem Sl.mono {α : Type} {enc : α → List Value} {k : Nat} {L M : List (Nat × Obj)} {v : Value} {xs : List α} (h : Sl enc k L v xs) (hs : ∀ x ∈ L, x ∈ M) : Sl enc k M v xs := by
  obtain ⟨a, cap, h1, h2, h3⟩ := h
  refine ⟨a, cap, h1, h2, h3.imp id ?_⟩
  rintro ⟨b, off, c, E, fr, e1, e2, e3⟩
  exact ⟨b, off, c, E, fr, e1, hs _ e2, e3⟩
/-- a variable of the package holds v -/
def Var (L : List (Nat × Obj)) (g : Nat) (v : Value) : Prop := ∃ E fr, (g, Obj.cells #[v] E fr) ∈ L
theorem Var.cell {W w : World} {L : List (Nat × Obj)} {g : Nat} {v : Value} (h : Var L g v) (hS : SH W w L) : w.cell? ⟨g, 0, none⟩ = some v := by
  obtain ⟨E, fr, m⟩ := h
  exact hS.cell m rfl
theorem Var.lt {W w : World} {L : List (Nat × Obj)} {g : Nat} {v : Value} (h : Var L g v) (hS : SH W w L) : g < w.heap.size := by
  obtain ⟨E, fr, m⟩ := h
  exact hS.lt m
theorem Var.mono {L M : List (Nat × Obj)} {g : Nat} {v : Value} (h : Var L g v) (hs : ∀ x ∈ L, x ∈ M) : Var M g v := by
  obtain ⟨E, fr, m⟩ := h
  exact ⟨E, fr, hs _ m⟩
end Go.Proofs.YtmabanabdoalaaaDoor
