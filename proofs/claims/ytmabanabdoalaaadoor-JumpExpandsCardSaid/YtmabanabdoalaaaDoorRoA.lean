/- Rows that are grown by append: the laws in one piece; a cell set in a known block, wherever it stands in the list. No program in sight. -/
import Derived.Test.YtmabanabdoalaaaDoorRow
import Derived.ArgAppend
import Derived.Deep.Upon
namespace Go.Proofs.YtmabanabdoalaaaDoor
open Go.RowKit

section
variable {W w w1 : World} {L : List (Nat × Obj)} {E : TypeId} {size n m : Nat} {xs ys : List Value} {st : St} {P : Program}

theorem SH.allocs (h : SH W w L) (o o' : Obj) : SH W ((w.alloc o).alloc o') ((w.heap.size + 1, o') :: (w.heap.size, o) :: L) := by
  have := (h.alloc o).alloc o'
  simpa using this
theorem SH.rest (h : SH W w (rowL E xs st ++ L)) : SH W w L := by
  cases st with
  | none => exact h
  | some t => exact h.tail
theorem below_drew {B : Nat} (h : Below B w w1) : Below B w w1.drew := ⟨h.os, h.tape, h.output, h.size, h.block⟩
theorem below_drewN {B k : Nat} (h : Below B w w1) : Below B w (w1.drewN k) := ⟨h.os, h.tape, h.output, h.size, h.block⟩
theorem SH.setAt {b i off : Nat} {c : Array Value} {fr : Nat × Nat} {v : Value} (h : SH W w L) (hi : L[i]? = some (b, .cells c E fr)) :
    SH W (w.setCell ⟨b, off, none⟩ v) (L.set i (b, .cells (c.setIfInBounds off v) E fr)) := by
  have hlt := (List.getElem?_eq_some_iff.1 hi).1
  have hg := (List.getElem?_eq_some_iff.1 hi).2
  have hmap : (L.set i (b, Obj.cells (c.setIfInBounds off v) E fr)).map (·.1) = L.map (·.1) := by
    rw [List.map_set]
    apply List.ext_getElem?
    intro k
    rw [List.getElem?_set]
    split
    · rename_i e; subst e
      simp [hlt, hg]
    · rfl
  refine ⟨h.os, h.tape, h.output, ?_, by rw [hmap]; exact h.nodup, ?_⟩
  · have := h.size
    simp [World.setCell]
    exact this
  · intro x hx
    obtain ⟨k, hk, e⟩ := List.mem_iff_getElem.1 hx
    rw [List.getElem_set] at e
    split at e
    · subst e
      exact heap_setCell_self (h.at (List.mem_of_getElem? hi)) off v
    · rename_i hne
      have hk' : k < L.length := by simpa using hk
      have hxL : x ∈ L := e ▸ List.getElem_mem hk'
      have hb : x.1 ≠ b := by
        intro e2
        have := (List.getElem_inj (i := i) (j := k) (h₀ := by simpa using hlt) (h₁ := by simpa using hk') h.nodup).1 (by simp [hg, e, e2])
        exact hne this
      rw [Below.heap_setCell _ _ _ _ hb]
      exact h.get x hxL

/-- append onto a slice of one's own -/
theorem SH.append (t ty : TypeId) (i : TypeInfo) (z : Value) (bytes : Nat) (ht : P.underlying t = some (.slice E)) (hi : P.info? E = some i) (hz : i.zero = some z) (hsize : i.size = size) (hby : i.bytes = bytes) (hzs : z.cells.size = size) (hsz : 0 < size)
    (h : SH W w (rowL E xs st ++ L)) (ok : rowOk size n xs st)
    (ad : Addr) (m c : Nat) (news : List Value) (hl : news.length = m * size) (hnews : ∀ j u, news[j]? = some u → w.cell? (ad.add j) = some u) (h1 : ∀ u ∈ news, u.oneCell' = true)
    (hm : 0 < m) (h63 : n + m ≤ maxLen) (hbytes : (n + m) * bytes ≤ 140737488355328) :
    ∃ g cap sp w', (Builtin.append_ #[t, t] ty #[rowV n st, .slice (some ad) m c]).run P w = .ok (.slice (some ⟨g, 0, none⟩) (n + m) cap) w' ∧
      rowOk size (n + m) (xs ++ news) (some (g, cap, sp)) ∧ SH W w' (rowL E (xs ++ news) (some (g, cap, sp)) ++ L) := by
  obtain ⟨g, cap, w', hr, h2, h3, h4, h5⟩ := run_append_lies (P := P) w t ty 0 E i z size bytes ht hi hz hsize hby hzs hsz (rowV n st) n xs (SH.ownsRow h ok) ad m c news hl hnews h1 hm h63 hbytes (Nat.zero_le _) _ rfl
  obtain ⟨sp, o1, o2⟩ := SH.appended h h3 rfl h2 h4
  exact ⟨g, cap, sp, w', hr, o1, o2⟩
theorem wp_append_sh {o : Oper} {a : Act} {K : Act → World → Prop} {Q : Exit → Act → World → Prop} (s x : Operand) (t : TypeId)
    (ho : o.op = .call { callee := .builtin .append, args := #[s, x], argTypes := #[t, t] })
    (i : TypeInfo) (z : Value) (bytes : Nat) (ht : P.underlying t = some (.slice E)) (hi : P.info? E = some i) (hz : i.zero = some z) (hsize : i.size = size) (hby : i.bytes = bytes) (hzs : z.cells.size = size) (hsz : 0 < size)
    (h : SH W w (rowL E xs st ++ L)) (ok : rowOk size n xs st) (hs : a.eval s = rowV n st)
    (ad : Addr) (m c : Nat) (news : List Value) (hx : a.eval x = .slice (some ad) m c) (hl : news.length = m * size) (hnews : ∀ j u, news[j]? = some u → w.cell? (ad.add j) = some u) (h1 : ∀ u ∈ news, u.oneCell' = true)
    (hm : 0 < m) (h63 : n + m ≤ maxLen) (hbytes : (n + m) * bytes ≤ 140737488355328)
    (hk : ∀ g cap sp w', rowOk size (n + m) (xs ++ news) (some (g, cap, sp)) → SH W w' (rowL E (xs ++ news) (some (g, cap, sp)) ++ L) → K (a.put o.dst (.slice (some ⟨g, 0, none⟩) (n + m) cap)) w') : o.wp P a w K Q := by
  obtain ⟨g, cap, sp, w', hr, h2, h3⟩ := SH.append (P := P) t o.type i z bytes ht hi hz hsize hby hzs hsz h ok ad m c news hl hnews h1 hm h63 hbytes
  unfold Oper.wp execOp
  simp only [ho, resolve, invoke, builtin, Sem.run_bind, Sem.run_pure, Result.andThen_ok, List.map_toArray, List.map_cons, List.map_nil, hs, hx, hr]
  exact hk g cap sp w' h2 h3
theorem wpList_append_sh {ops : Array Oper} {rest : List Oper} {o : Oper} {a : Act} {Q : Exit → Act → World → Prop} (hgd : o.guard = none) (s x : Operand) (t : TypeId)
    (ho : o.op = .call { callee := .builtin .append, args := #[s, x], argTypes := #[t, t] })
    (i : TypeInfo) (z : Value) (bytes : Nat) (ht : P.underlying t = some (.slice E)) (hi : P.info? E = some i) (hz : i.zero = some z) (hsize : i.size = size) (hby : i.bytes = bytes) (hzs : z.cells.size = size) (hsz : 0 < size)
    (h : SH W w (rowL E xs st ++ L)) (ok : rowOk size n xs st) (hs : a.eval s = rowV n st)
    (ad : Addr) (m c : Nat) (news : List Value) (hx : a.eval x = .slice (some ad) m c) (hl : news.length = m * size) (hnews : ∀ j u, news[j]? = some u → w.cell? (ad.add j) = some u) (h1 : ∀ u ∈ news, u.oneCell' = true)
    (hm : 0 < m) (h63 : n + m ≤ maxLen) (hbytes : (n + m) * bytes ≤ 140737488355328)
    (hk : ∀ g cap sp w', rowOk size (n + m) (xs ++ news) (some (g, cap, sp)) → SH W w' (rowL E (xs ++ news) (some (g, cap, sp)) ++ L) → wpList P ops Q rest (a.put o.dst (.slice (some ⟨g, 0, none⟩) (n + m) cap)) w') : wpList P ops Q (o :: rest) a w :=
  wpList_plain hgd fun _ hK => wp_append_sh s x t ho i z bytes ht hi hz hsize hby hzs hsz h ok hs ad m c news hx hl hnews h1 hm h63 hbytes fun g cap sp w' h2 h3 => hK _ _ (hk g cap sp w' h2 h3)
theorem step_append_sh {ops : Array Oper} {o : Oper} {a : Act} {K : Act → World → Prop} {Q : Exit → Act → World → Prop} {G : Prop} (hgd : o.guard = none) (s x : Operand) (t : TypeId)
    (ho : o.op = .call { callee := .builtin .append, args := #[s, x], argTypes := #[t, t] })
    (i : TypeInfo) (z : Value) (bytes : Nat) (ht : P.underlying t = some (.slice E)) (hi : P.info? E = some i) (hz : i.zero = some z) (hsize : i.size = size) (hby : i.bytes = bytes) (hzs : z.cells.size = size) (hsz : 0 < size)
    (h : SH W w (rowL E xs st ++ L)) (ok : rowOk size n xs st) (hs : a.eval s = rowV n st)
    (ad : Addr) (m c : Nat) (news : List Value) (hx : a.eval x = .slice (some ad) m c) (hl : news.length = m * size) (hnews : ∀ j u, news[j]? = some u → w.cell? (ad.add j) = some u) (h1 : ∀ u ∈ news, u.oneCell' = true)
    (hm : 0 < m) (h63 : n + m ≤ maxLen) (hbytes : (n + m) * bytes ≤ 140737488355328)
    (hk : ∀ g cap sp w', rowOk size (n + m) (xs ++ news) (some (g, cap, sp)) → SH W w' (rowL E (xs ++ news) (some (g, cap, sp)) ++ L) → K (a.put o.dst (.slice (some ⟨g, 0, none⟩) (n + m) cap)) w') :
    if Region.wanted o (yielded ops a.tmps) = true then Oper.wp P o a w K Q else G := by
  have hw : Region.wanted o (yielded ops a.tmps) = true := by simp [Region.wanted, hgd]
  rw [if_pos hw]
  exact wp_append_sh s x t ho i z bytes ht hi hz hsize hby hzs hsz h ok hs ad m c news hx hl hnews h1 hm h63 hbytes hk
/-- nothing is appended -/
theorem wpList_append_zero {ops : Array Oper} {rest : List Oper} {o : Oper} {a : Act} {Q : Exit → Act → World → Prop} (hgd : o.guard = none) (s x : Operand) (t : TypeId)
    (ho : o.op = .call { callee := .builtin .append, args := #[s, x], argTypes := #[t, t] })
    (i : TypeInfo) (ht : P.underlying t = some (.slice E)) (hi : P.info? E = some i) (base : Option Addr) (n cap : Nat) (hle : n ≤ cap) (hs : a.eval s = .slice base n cap)
    (b : Option Addr) (c : Nat) (hx : a.eval x = .slice b 0 c)
    (hk : wpList P ops Q rest (a.put o.dst (.slice base n cap)) w) : wpList P ops Q (o :: rest) a w := by
  refine wpList_plain hgd fun _ hK => ?_
  unfold Oper.wp execOp
  have hr : (Builtin.append_ #[t, t] o.type #[.slice base n cap, .slice b 0 c]).run P w = .ok (.slice base n cap) w := by
    cases base <;> cases b <;> simp [Builtin.append_, run_underlying ht, sizeOf, typeInfo, hi, Builtin.lenOf, hle, Builtin.firstCells, loadCells, loadCellsFrom, storeCells, Result.andThen]
  simp only [ho, resolve, invoke, builtin, Sem.run_bind, Sem.run_pure, Result.andThen_ok, List.map_toArray, List.map_cons, List.map_nil, hs, hx, hr]
  exact hK _ _ hk
end
end Go.Proofs.YtmabanabdoalaaaDoor
