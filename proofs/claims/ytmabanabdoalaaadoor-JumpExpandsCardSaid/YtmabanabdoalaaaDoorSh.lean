/- Known blocks of a world, said as a list; what each change of the world does to such a list. No program in sight. -/
import Derived.Test.YtmabanabdoalaaaDoorRows
import Derived.WalkKit
import Derived.WalkSpells
import Derived.WalkLawsBesides
import Derived.BigRegion
import Derived.BigQuiet
import Derived.Deep.QuietTactic
import Derived.Deep.RegionLaw
import Derived.Deep.RegionLawGrows
import Derived.Deep.AppendLies
import Derived.Lib.Hide
namespace Go.Proofs.YtmabanabdoalaaaDoor
open Go.RowKit

/-- W: the world at the beginning; w: now; L: blocks that are known, each once. -/
structure SH (W w : World) (L : List (Nat × Obj)) : Prop where
  os : w.os = W.os
  tape : w.tape = W.tape
  output : w.output = W.output
  size : W.heap.size ≤ w.heap.size
  nodup : (L.map (·.1)).Nodup
  get : ∀ x ∈ L, w.heap[x.1]? = some x.2

section
variable {W w w' : World} {L M : List (Nat × Obj)} {b off : Nat} {o : Obj} {c : Array Value} {E : TypeId} {v : Value}

theorem SH.at (h : SH W w L) (m : (b, o) ∈ L) : w.heap[b]? = some o := h.get _ m
theorem SH.lt (h : SH W w L) (m : (b, o) ∈ L) : b < w.heap.size := lt_of_block (h.at m)
theorem SH.cell {fr : Nat × Nat} (h : SH W w L) (m : (b, Obj.cells c E fr) ∈ L) (hv : c[off]? = some v) : w.cell? ⟨b, off, none⟩ = some v := by
  have := h.at m
  simp [World.cell?, this, hv]
theorem SH.free (h : SH W w L) (m : (b, Obj.cells c E (0, 0)) ∈ L) : w.frozen? ⟨b, off, none⟩ = false := by
  have := h.at m
  simp [World.frozen?, this]
theorem SH.perm (h : SH W w L) (p : L.Perm M) : SH W w M :=
  ⟨h.os, h.tape, h.output, h.size, (p.map _).nodup_iff.1 h.nodup, fun x hx => h.get x (p.mem_iff.2 hx)⟩
theorem SH.sub (h : SH W w L) (p : M.Sublist L) : SH W w M :=
  ⟨h.os, h.tape, h.output, h.size, (p.map _).nodup h.nodup, fun x hx => h.get x (p.subset hx)⟩
theorem SH.tail {x : Nat × Obj} (h : SH W w (x :: L)) : SH W w L := h.sub (List.sublist_cons_self _ _)
theorem SH.ne {b' : Nat} {o' : Obj} (h : SH W w ((b, o) :: L)) (m : (b', o') ∈ L) : b ≠ b' := by
  have := h.nodup
  simp only [List.map_cons, List.nodup_cons] at this
  intro e; subst e
  exact this.1 (List.mem_map.2 ⟨_, m, rfl⟩)
theorem perm_pick (L : List (Nat × Obj)) (i : Nat) (h : i < L.length) : L.Perm (L[i] :: L.eraseIdx i) := by
  induction L generalizing i with
  | nil => simp at h
  | cons x l ih =>
    cases i with
    | zero => simp
    | succ i =>
      simp only [List.getElem_cons_succ, List.eraseIdx_cons_succ]
      exact ((ih i (by simpa using h)).cons x).trans (List.Perm.swap _ _ _)
theorem SH.pick (h : SH W w L) (i : Nat) (hi : i < L.length) : SH W w (L[i] :: L.eraseIdx i) := h.perm (perm_pick L i hi)

theorem SH.below (h : SH W w L) (hb : Below w.heap.size w w') : SH W w' L :=
  ⟨hb.os.trans h.os, hb.tape.trans h.tape, hb.output.trans h.output, Nat.le_trans h.size hb.size, h.nodup, fun x hx => (hb.block x.1 (h.lt hx)).trans (h.get x hx)⟩
theorem SH.drew (h : SH W w L) : SH W w.drew L := ⟨h.os, h.tape, h.output, h.size, h.nodup, h.get⟩
theorem SH.drewN {n : Nat} (h : SH W w L) : SH W (w.drewN n) L := ⟨h.os, h.tape, h.output, h.size, h.nodup, h.get⟩
theorem SH.add (h : SH W w L) (hb : Below w.heap.size w w') (hn : w.heap.size ≤ b) (ho : w'.heap[b]? = some o) : SH W w' ((b, o) :: L) := by
  have h' := h.below hb
  refine ⟨h'.os, h'.tape, h'.output, h'.size, ?_, ?_⟩
  · simp only [List.map_cons, List.nodup_cons]
    refine ⟨fun hm => ?_, h'.nodup⟩
    obtain ⟨x, hx, e⟩ := List.mem_map.1 hm
    have := h.lt (b := x.1) (o := x.2) hx
    omega
  · intro x hx
    rcases List.mem_cons.1 hx with rfl | hx
    · exact ho
    · exact h'.get x hx
theorem below_alloc (w : World) (o : Obj) : Below w.heap.size w (w.alloc o) := (Below.refl _ _).alloc (Nat.le_refl _) _
theorem heap_alloc_self (w : World) (o : Obj) : (w.alloc o).heap[w.heap.size]? = some o := by
  show (w.heap.push o)[w.heap.size]? = _
  simp
theorem SH.alloc (h : SH W w L) (o : Obj) : SH W (w.alloc o) ((w.heap.size, o) :: L) :=
  h.add (below_alloc w o) (Nat.le_refl _) (heap_alloc_self w o)
theorem SH.alloc2 (h : SH W w L) (o o' : Obj) : SH W ((w.alloc o).alloc o').drew ((w.heap.size + 1, o') :: (w.heap.size, o) :: L) := by
  have := ((h.alloc o).alloc o').drew
  simpa using this
theorem heap_setCell_self {fr : Nat × Nat} (h : w.heap[b]? = some (.cells c E fr)) (off : Nat) (v : Value) : (w.setCell ⟨b, off, none⟩ v).heap[b]? = some (.cells (c.setIfInBounds off v) E fr) := by
  show (w.heap.modify b _)[b]? = _
  rw [Array.getElem?_modify]
  simp [h]
theorem SH.setCell {fr : Nat × Nat} (h : SH W w ((b, .cells c E fr) :: L)) (off : Nat) (v : Value) : SH W (w.setCell ⟨b, off, none⟩ v) ((b, .cells (c.setIfInBounds off v) E fr) :: L) := by
  refine ⟨h.os, h.tape, h.output, ?_, h.nodup, ?_⟩
  · have := h.size
    simp [World.setCell]
    exact this
  · intro x hx
    rcases List.mem_cons.1 hx with rfl | hx
    · exact heap_setCell_self (h.at (.head _)) off v
    · rw [Below.heap_setCell _ _ _ _ (h.ne (b' := x.1) (o' := x.2) hx).symm]
      exact h.get x (.tail _ hx)
/-- what an append does to a row of one's own -/
theorem SH.grown (h : SH W w L) (hg : w.grownBy w' none) : SH W w' L := h.below ((Below.refl _ _).grown hg (Nat.le_refl _) (fun _ e => by cases e))
end

/-- all blocks of a world -/
def old (W : World) : List (Nat × Obj) := W.heap.toList.mapIdx fun i o => (i, o)
theorem old_map (W : World) : (old W).map (·.1) = List.range W.heap.size := by
  apply List.ext_getElem?
  intro i
  simp [old]
  by_cases h : i < W.heap.size <;> simp [h]
theorem mem_old {W : World} {b : Nat} {o : Obj} : (b, o) ∈ old W ↔ W.heap[b]? = some o := by
  constructor
  · intro h
    obtain ⟨i, hi, e⟩ := List.mem_iff_getElem.1 h
    simp [old] at e hi
    obtain ⟨rfl, rfl⟩ := e
    simp [hi]
  · intro h
    have hb := lt_of_block h
    refine List.mem_iff_getElem.2 ⟨b, by simpa [old] using hb, ?_⟩
    simp [old]
    have : W.heap[b]? = some W.heap[b] := by simp [hb]
    rw [this] at h
    exact Option.some.inj h
theorem SH.start (W : World) : SH W W (old W) :=
  ⟨rfl, rfl, rfl, Nat.le_refl _, by rw [old_map]; exact List.nodup_range, fun x hx => mem_old.1 hx⟩
theorem SH.toBelow {W w : World} {L : List (Nat × Obj)} (h : SH W w (L ++ old W)) : Below W.heap.size W w :=
  ⟨h.os, h.tape, h.output, h.size, fun k hk => by
    have hk' : W.heap[k]? = some W.heap[k] := by simp [hk]
    rw [hk']
    exact h.get (k, W.heap[k]) (List.mem_append.2 (.inr (mem_old.2 hk')))⟩

/-- the worlds in which a list of blocks is known -/
structure SHW (W : World) (L : List (Nat × Obj)) where
  w : World
  ok : SH W w L

/-- A region that draws its order, whose operations read what is known, and whose callees make new memory alone and answer by what is known: one walk, in the text's order. -/
theorem wp_region_sh {P : Program} {id : Nat} {Q : Exit → Act → World → Prop} {a : Act} {w W : World} {L : List (Nat × Obj)} {l : List Oper} (hm : P.follows .mixedOrders = true) (hB : Region.lexB .any l.toArray = true) (hS : SH W w L)
    (h : wpQuiet P l.toArray (fun w' => ∃ x : SHW W L, w' = x.w) (fun a' => ∀ x : SHW W L, Q .normal a' x.w) l a) : (Code.region id l.toArray true).wp P Q a w := by
  refine wp_region_quiet (C := fun w' => ∃ x : SHW W L, w' = x.w) hm hB ⟨⟨_, hS.drew⟩, rfl⟩ ?_
  simpa using h
theorem calls_sh {P : Program} {f : FuncId} {args : Array Value} {W : World} {L : List (Nat × Obj)} {x : SHW W L} {v : Value}
    (h : Calls P f args x.w fun e w' => e = .returned v ∧ Below x.w.heap.size x.w w') : Calls P f args x.w fun e w'' => e = .returned v ∧ ∃ y : SHW W L, w'' = y.w :=
  h.mono fun _ _ ⟨he, hb⟩ => ⟨he, ⟨_, x.ok.below hb⟩, rfl⟩

end Go.Proofs.YtmabanabdoalaaaDoor
