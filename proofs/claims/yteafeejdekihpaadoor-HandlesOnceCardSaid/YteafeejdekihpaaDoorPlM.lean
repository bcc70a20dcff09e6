/- Handles: what always holds of a pool. Plain lists, no program in sight. -/
import Derived.Test.YteafeejdekihpaaDoorPlA
import Derived.Test.YteafeejdekihpaaDoorMap
namespace Go.Proofs.YteafeejdekihpaaDoor

/-- what always holds of a pool -/
structure PlOk (q : Pl) : Prop where
  len : q.sl.length ≤ 128
  nodup : q.fr.Nodup
  free : ∀ i ∈ q.fr, ∃ (n : Nat) (g : Int), i = n ∧ q.sl[n]? = some (g, false)
  dead : ∀ (i : Nat) (g : Int), q.sl[i]? = some (g, false) → g < 1073741824 → (i : Int) ∈ q.fr
  count : q.n = (q.sl.countP (·.2) : Nat)
  gens : ∀ (i : Nat) (g : Int) (l : Bool), q.sl[i]? = some (g, l) → 1 ≤ g ∧ g ≤ 1073741824
theorem plOk_new : PlOk ⟨[], [], 0⟩ := ⟨by simp, by simp, by simp, by simp, by simp, by simp⟩

theorem PlOk.n0 {q : Pl} (h : PlOk q) : 0 ≤ q.n ∧ q.n ≤ 128 := by
  have h1 := h.count
  have h2 : q.sl.countP (·.2) ≤ q.sl.length := List.countP_le_length
  have h3 := h.len
  omega

theorem get_set {α : Type} {l : List α} {i j : Nat} {x y : α} (h : (l.set i x)[j]? = some y) : (j = i ∧ y = x) ∨ (j ≠ i ∧ l[j]? = some y) := by
  rw [List.getElem?_set] at h
  by_cases e : i = j
  · subst e
    simp only [if_true] at h
    split at h
    · exact .inl ⟨rfl, (Option.some.inj h).symm⟩
    · cases h
  · rw [if_neg e] at h
    exact .inr ⟨fun e2 => e e2.symm, h⟩

theorem plOk_free {q : Pl} (h : PlOk q) {i : Nat} {g : Int} (hi : q.sl[i]? = some (g, true)) (hg : g < 1073741824) : PlOk ⟨q.sl.set i (g + 1, false), q.fr ++ [(i : Int)], q.n - 1⟩ := by
  have hlt := (List.getElem?_eq_some_iff.1 hi).1
  have hget : q.sl[i] = (g, true) := (List.getElem?_eq_some_iff.1 hi).2
  have hni : (i : Int) ∉ q.fr := fun hm => by
    obtain ⟨n, g', e, h'⟩ := h.free _ hm
    have : n = i := by omega
    subst this
    rw [hi] at h'; cases h'
  refine ⟨by simpa using h.len, ?_, ?_, ?_, ?_, ?_⟩
  · exact List.nodup_append.2 ⟨h.nodup, by simp, fun a ha b hb e => hni (by simp at hb; subst hb; exact e ▸ ha)⟩
  · intro j hj
    rcases List.mem_append.1 hj with hj | hj
    · obtain ⟨n, g', rfl, h'⟩ := h.free j hj
      refine ⟨n, g', rfl, ?_⟩
      have hne : i ≠ n := fun e => by subst e; exact hni hj
      rw [List.getElem?_set, if_neg hne]; exact h'
    · simp at hj; subst hj
      exact ⟨i, g + 1, rfl, by simp [hlt]⟩
  · intro j g' hj hg'
    rcases get_set hj with ⟨rfl, e⟩ | ⟨hne, hj⟩
    · simp
    · exact List.mem_append_left _ (h.dead j g' hj hg')
  · have hc := h.count
    have h1 := List.countP_set (p := fun x : Int × Bool => x.2) (l := q.sl) (i := i) (a := (g + 1, false)) hlt
    have hpos : 0 < q.sl.countP (·.2) := List.countP_pos_iff.2 ⟨_, List.mem_of_getElem? hi, rfl⟩
    rw [hget] at h1
    simp only [if_true, Bool.false_eq_true, if_false, Nat.add_zero] at h1
    show q.n - 1 = _
    rw [h1]; omega
  · intro j g' l hj
    rcases get_set hj with ⟨rfl, e⟩ | ⟨hne, hj⟩
    · simp only [Prod.mk.injEq] at e
      have := h.gens _ _ _ hi
      omega
    · exact h.gens _ _ _ hj

theorem plOk_old {q : Pl} (h : PlOk q) {i : Nat} {g : Int} (hi : q.sl[i]? = some (g, true)) (hg : 1073741824 ≤ g) : PlOk ⟨q.sl.set i (g, false), q.fr, q.n - 1⟩ := by
  have hlt := (List.getElem?_eq_some_iff.1 hi).1
  have hget : q.sl[i] = (g, true) := (List.getElem?_eq_some_iff.1 hi).2
  have hni : (i : Int) ∉ q.fr := fun hm => by
    obtain ⟨n, g', e, h'⟩ := h.free _ hm
    have : n = i := by omega
    subst this
    rw [hi] at h'; cases h'
  refine ⟨by simpa using h.len, h.nodup, ?_, ?_, ?_, ?_⟩
  · intro j hj
    obtain ⟨n, g', rfl, h'⟩ := h.free j hj
    refine ⟨n, g', rfl, ?_⟩
    have hne : i ≠ n := fun e => by subst e; exact hni hj
    rw [List.getElem?_set, if_neg hne]; exact h'
  · intro j g' hj hg'
    rcases get_set hj with ⟨rfl, e⟩ | ⟨hne, hj⟩
    · simp only [Prod.mk.injEq] at e; omega
    · exact h.dead j g' hj hg'
  · have hc := h.count
    have h1 := List.countP_set (p := fun x : Int × Bool => x.2) (l := q.sl) (i := i) (a := (g, false)) hlt
    have hpos : 0 < q.sl.countP (·.2) := List.countP_pos_iff.2 ⟨_, List.mem_of_getElem? hi, rfl⟩
    rw [hget] at h1
    simp only [if_true, Bool.false_eq_true, if_false, Nat.add_zero] at h1
    show q.n - 1 = _
    rw [h1]; omega
  · intro j g' l hj
    rcases get_set hj with ⟨rfl, e⟩ | ⟨hne, hj⟩
    · simp only [Prod.mk.injEq] at e
      have := h.gens _ _ _ hi
      omega
    · exact h.gens _ _ _ hj

theorem plOk_take {q : Pl} (h : PlOk q) {fs : List Int} {i : Nat} {g : Int} (hf : q.fr = fs ++ [(i : Int)]) (hi : q.sl[i]? = some (g, false)) : PlOk ⟨q.sl.set i (g, true), fs, q.n + 1⟩ := by
  have hlt := (List.getElem?_eq_some_iff.1 hi).1
  have hget : q.sl[i] = (g, false) := (List.getElem?_eq_some_iff.1 hi).2
  have hn := h.nodup
  rw [hf] at hn
  have hn2 := List.nodup_append.1 hn
  have hni : (i : Int) ∉ fs := fun hm => hn2.2.2 _ hm _ (by simp) rfl
  refine ⟨by simpa using h.len, hn2.1, ?_, ?_, ?_, ?_⟩
  · intro j hj
    obtain ⟨n, g', rfl, h'⟩ := h.free j (by rw [hf]; exact List.mem_append_left _ hj)
    refine ⟨n, g', rfl, ?_⟩
    have hne : i ≠ n := fun e => by subst e; exact hni hj
    rw [List.getElem?_set, if_neg hne]; exact h'
  · intro j g' hj hg'
    rcases get_set hj with ⟨rfl, e⟩ | ⟨hne, hj⟩
    · simp at e
    · have := h.dead j g' hj hg'
      rw [hf] at this
      rcases List.mem_append.1 this with h' | h'
      · exact h'
      · simp at h'; omega
  · have hc := h.count
    have h1 := List.countP_set (p := fun x : Int × Bool => x.2) (l := q.sl) (i := i) (a := (g, true)) hlt
    rw [hget] at h1
    simp only [if_true, Bool.false_eq_true, if_false, Nat.sub_zero] at h1
    show q.n + 1 = _
    rw [h1]; omega
  · intro j g' l hj
    rcases get_set hj with ⟨rfl, e⟩ | ⟨hne, hj⟩
    · simp only [Prod.mk.injEq] at e
      have := h.gens _ _ _ hi
      omega
    · exact h.gens _ _ _ hj

theorem plOk_grow {q : Pl} (h : PlOk q) (hf : q.fr = []) (hn : q.sl.length < 128) : PlOk ⟨q.sl ++ [(1, true)], [], q.n + 1⟩ := by
  have key : ∀ (j : Nat) (x : Int × Bool), (q.sl ++ [(1, true)])[j]? = some x → q.sl[j]? = some x ∨ (j = q.sl.length ∧ x = (1, true)) := by
    intro j x hj
    by_cases hlt : j < q.sl.length
    · rw [List.getElem?_append_left hlt] at hj; exact .inl hj
    · rw [List.getElem?_append_right (by omega)] at hj
      have h0 : j - q.sl.length = 0 := by
        rcases Nat.eq_zero_or_pos (j - q.sl.length) with h0 | h0
        · exact h0
        · rw [List.getElem?_eq_none (by simp; omega)] at hj; cases hj
      rw [h0] at hj
      simp at hj
      exact .inr ⟨by omega, hj.symm⟩
  refine ⟨by simp; omega, by simp, by simp, ?_, ?_, ?_⟩
  · intro j g' hj hg'
    rcases key j _ hj with hj | ⟨_, e⟩
    · have := h.dead j g' hj hg'
      rw [hf] at this
      simp at this
    · simp at e
  · have hc := h.count
    simp [List.countP_append]; omega
  · intro j g' l hj
    rcases key j _ hj with hj | ⟨_, e⟩
    · exact h.gens _ _ _ hj
    · simp only [Prod.mk.injEq] at e; omega

/-- all places are taken and none is free: all live -/
theorem plOk_full {q : Pl} (h : PlOk q) (hf : q.fr = []) (hn : q.sl.length = 128) (hg : ∀ (i : Nat) (g : Int) (l : Bool), q.sl[i]? = some (g, l) → g < 1073741824) : q.n = 128 := by
  have : q.sl.countP (·.2) = q.sl.length := List.countP_eq_length.2 fun x hx => by
    obtain ⟨i, hi, e⟩ := List.mem_iff_getElem.1 hx
    obtain ⟨g, l⟩ := x
    have hi2 : q.sl[i]? = some (g, l) := by simp [hi, e]
    cases l with
    | true => rfl
    | false =>
      have := h.dead i g hi2 (hg _ _ _ hi2)
      rw [hf] at this
      simp at this
  have hc := h.count
  omega

/-- what holds in HandlesOnce behind k calls: the handles that live, those that were given, those that are gone -/
structure Once (q : Pl) (live : List (Int × Int)) (lg lo : MList (Int × Int)) (k : Nat) : Prop where
  ok : PlOk q
  frs : q.fr.length ≤ k
  gen : ∀ (i : Nat) (g : Int) (l : Bool), q.sl[i]? = some (g, l) → g ≤ k + 1
  nodup : live.Nodup
  lives : ∀ x ∈ live, ∃ i : Nat, x.1 = i ∧ q.sl[i]? = some (x.2, true)
  len : q.n = live.length
  given : ∀ x v, mget lg x = some v → ∃ (i : Nat) (g : Int) (l : Bool), x.1 = i ∧ q.sl[i]? = some (g, l) ∧ (x.2 < g ∨ x.2 = g ∧ l = true)
  gone : ∀ x v, mget lo x = some v → ∃ (i : Nat) (g : Int) (l : Bool), x.1 = i ∧ q.sl[i]? = some (g, l) ∧ x.2 < g
theorem once_new : Once ⟨[], [], 0⟩ [] [] [] 0 := ⟨plOk_new, by simp, by simp, by simp, by simp, rfl, by simp [mget], by simp [mget]⟩

theorem once_free {q : Pl} {live : List (Int × Int)} {lg lo : MList (Int × Int)} {k j : Nat} {x : Int × Int} {c : Nat} (h : Once q live lg lo k) (hk : k ≤ 1000) (hj : live[j]? = some x) :
    ∃ i : Nat, x.1 = i ∧ q.sl[i]? = some (x.2, true) ∧ 0 ≤ x.2 ∧ x.2 < 1073741824 ∧ Once ⟨q.sl.set i (x.2 + 1, false), q.fr ++ [(i : Int)], q.n - 1⟩ (live.take j ++ live.drop (j + 1)) lg (mput lo x (.bool true) c) (k + 1) := by
  obtain ⟨i, hi, hl⟩ := h.lives x (List.mem_of_getElem? hj)
  have hg1 := h.ok.gens _ _ _ hl
  have hg2 := h.gen _ _ _ hl
  have hlt := (List.getElem?_eq_some_iff.1 hl).1
  have hjl := (List.getElem?_eq_some_iff.1 hj).1
  have hje := (List.getElem?_eq_some_iff.1 hj).2
  have her : live.take j ++ live.drop (j + 1) = live.eraseIdx j := (List.eraseIdx_eq_take_drop_succ live j).symm
  have hnot : ∀ y ∈ live.eraseIdx j, y ≠ x ∧ y ∈ live := by
    intro y hy
    obtain ⟨m, hm, hne, e⟩ := List.mem_eraseIdx_iff_getElem.1 hy
    refine ⟨fun e2 => hne ?_, e ▸ List.getElem_mem hm⟩
    exact (List.getElem_inj (h₀ := hm) (h₁ := hjl) h.nodup).1 (by rw [e, hje, e2])
  refine ⟨i, hi, hl, by omega, by omega, plOk_free h.ok hl (by omega), ?_, ?_, ?_, ?_, ?_, ?_, ?_⟩
  · have := h.frs; simp; omega
  · intro m g l hm
    rcases get_set hm with ⟨rfl, e⟩ | ⟨hne, hm⟩
    · simp only [Prod.mk.injEq] at e; omega
    · have := h.gen _ _ _ hm; omega
  · rw [her]; exact (List.eraseIdx_sublist _ _).nodup h.nodup
  · rw [her]
    intro y hy
    obtain ⟨hyx, hyl⟩ := hnot y hy
    obtain ⟨m, hm, hml⟩ := h.lives y hyl
    refine ⟨m, hm, ?_⟩
    have hne : i ≠ m := fun e => by
      subst e
      rw [hl] at hml
      simp only [Option.some.injEq, Prod.mk.injEq, and_true] at hml
      exact hyx (Prod.ext (by omega) hml.symm)
    show (q.sl.set i _)[m]? = _
    rw [List.getElem?_set, if_neg hne]; exact hml
  · rw [her, List.length_eraseIdx, if_pos hjl]
    have := h.len
    show q.n - 1 = _
    omega
  · intro y v hy
    obtain ⟨m, g, l, hm, hml, hd⟩ := h.given y v hy
    by_cases hne : i = m
    · subst hne
      rw [hl] at hml
      simp only [Option.some.injEq, Prod.mk.injEq] at hml
      exact ⟨i, x.2 + 1, false, hm, by simp [hlt], .inl (by omega)⟩
    · exact ⟨m, g, l, hm, by show (q.sl.set i _)[m]? = _; rw [List.getElem?_set, if_neg hne]; exact hml, hd⟩
  · intro y v hy
    rw [mput_get] at hy
    by_cases hyx : y = x
    · subst hyx
      exact ⟨i, y.2 + 1, false, hi, by simp [hlt], by omega⟩
    · rw [if_neg hyx] at hy
      obtain ⟨m, g, l, hm, hml, hd⟩ := h.gone y v hy
      by_cases hne : i = m
      · subst hne
        rw [hl] at hml
        simp only [Option.some.injEq, Prod.mk.injEq] at hml
        exact ⟨i, x.2 + 1, false, hm, by simp [hlt], by omega⟩
      · exact ⟨m, g, l, hm, by show (q.sl.set i _)[m]? = _; rw [List.getElem?_set, if_neg hne]; exact hml, hd⟩

theorem once_take {q : Pl} {live : List (Int × Int)} {lg lo : MList (Int × Int)} {k : Nat} {fs : List Int} {i : Nat} {g : Int} {c : Nat} (h : Once q live lg lo k) (hf : q.fr = fs ++ [(i : Int)]) (hl : q.sl[i]? = some (g, false)) :
    mget lg ((i : Int), g) = none ∧ mget lo ((i : Int), g) = none ∧ Once ⟨q.sl.set i (g, true), fs, q.n + 1⟩ (live ++ [((i : Int), g)]) (mput lg ((i : Int), g) (.bool true) c) lo (k + 1) := by
  have hlt := (List.getElem?_eq_some_iff.1 hl).1
  have hnl : ((i : Int), g) ∉ live := fun hm => by
    obtain ⟨m, hm, hml⟩ := h.lives _ hm
    have : i = m := by simp at hm; omega
    subst this
    rw [hl] at hml; simp at hml
  refine ⟨?_, ?_, plOk_take h.ok hf hl, ?_, ?_, ?_, ?_, ?_, ?_, ?_⟩
  · cases hq : mget lg ((i : Int), g) with
    | none => rfl
    | some v =>
      obtain ⟨m, g', l, hm, hml, hd⟩ := h.given _ _ hq
      have : i = m := by simp at hm; omega
      subst this
      rw [hl] at hml
      simp only [Option.some.injEq, Prod.mk.injEq] at hml
      obtain ⟨rfl, rfl⟩ := hml
      simp at hd
  · cases hq : mget lo ((i : Int), g) with
    | none => rfl
    | some v =>
      obtain ⟨m, g', l, hm, hml, hd⟩ := h.gone _ _ hq
      have : i = m := by simp at hm; omega
      subst this
      rw [hl] at hml
      simp only [Option.some.injEq, Prod.mk.injEq] at hml
      simp only at hd
      omega
  · have := h.frs; rw [hf] at this; simp at this; show fs.length ≤ _; omega
  · intro m g' l hm
    rcases get_set hm with ⟨rfl, e⟩ | ⟨hne, hm⟩
    · simp only [Prod.mk.injEq] at e; have := h.gen _ _ _ hl; omega
    · have := h.gen _ _ _ hm; omega
  · exact List.nodup_append.2 ⟨h.nodup, by simp, fun a ha b hb e => hnl (by simp at hb; subst hb; exact e ▸ ha)⟩
  · intro y hy
    rcases List.mem_append.1 hy with hy | hy
    · obtain ⟨m, hm, hml⟩ := h.lives y hy
      refine ⟨m, hm, ?_⟩
      have hne : i ≠ m := fun e => by
        subst e
        rw [hl] at hml; simp at hml
      show (q.sl.set i _)[m]? = _
      rw [List.getElem?_set, if_neg hne]; exact hml
    · simp at hy; subst hy
      exact ⟨i, rfl, by simp [hlt]⟩
  · have := h.len; show q.n + 1 = _; simp; omega
  · intro y v hy
    rw [mput_get] at hy
    by_cases hyx : y = ((i : Int), g)
    · subst hyx
      exact ⟨i, g, true, rfl, by simp [hlt], .inr ⟨rfl, rfl⟩⟩
    · rw [if_neg hyx] at hy
      obtain ⟨m, g', l, hm, hml, hd⟩ := h.given y v hy
      by_cases hne : i = m
      · subst hne
        rw [hl] at hml
        simp only [Option.some.injEq, Prod.mk.injEq] at hml
        refine ⟨i, g, true, hm, by simp [hlt], .inl ?_⟩
        rcases hd with hd | ⟨_, hd⟩
        · omega
        · rw [← hml.2] at hd; cases hd
      · exact ⟨m, g', l, hm, by show (q.sl.set i _)[m]? = _; rw [List.getElem?_set, if_neg hne]; exact hml, hd⟩
  · intro y v hy
    obtain ⟨m, g', l, hm, hml, hd⟩ := h.gone y v hy
    by_cases hne : i = m
    · subst hne
      rw [hl] at hml
      simp only [Option.some.injEq, Prod.mk.injEq] at hml
      exact ⟨i, g, true, hm, by simp [hlt], by omega⟩
    · exact ⟨m, g', l, hm, by show (q.sl.set i _)[m]? = _; rw [List.getElem?_set, if_neg hne]; exact hml, hd⟩

theorem once_grow {q : Pl} {live : List (Int × Int)} {lg lo : MList (Int × Int)} {k c : Nat} (h : Once q live lg lo k) (hf : q.fr = []) (hn : q.sl.length < 128) :
    mget lg ((q.sl.length : Int), 1) = none ∧ mget lo ((q.sl.length : Int), 1) = none ∧ Once ⟨q.sl ++ [(1, true)], [], q.n + 1⟩ (live ++ [((q.sl.length : Int), 1)]) (mput lg ((q.sl.length : Int), 1) (.bool true) c) lo (k + 1) := by
  have far : ∀ (m : Nat) (g : Int) (l : Bool), (q.sl.length : Int) = m → q.sl[m]? = some (g, l) → False := fun m g l e h2 => by
    have := (List.getElem?_eq_some_iff.1 h2).1
    omega
  have keep : ∀ (m : Nat) (x : Int × Bool), q.sl[m]? = some x → (q.sl ++ [(1, true)])[m]? = some x := fun m x h2 => by
    rw [List.getElem?_append_left (List.getElem?_eq_some_iff.1 h2).1]; exact h2
  have key : ∀ (j : Nat) (x : Int × Bool), (q.sl ++ [(1, true)])[j]? = some x → q.sl[j]? = some x ∨ (j = q.sl.length ∧ x = (1, true)) := by
    intro j x hj
    by_cases hlt : j < q.sl.length
    · rw [List.getElem?_append_left hlt] at hj; exact .inl hj
    · rw [List.getElem?_append_right (by omega)] at hj
      have h0 : j - q.sl.length = 0 := by
        rcases Nat.eq_zero_or_pos (j - q.sl.length) with h0 | h0
        · exact h0
        · rw [List.getElem?_eq_none (by simp; omega)] at hj; cases hj
      rw [h0] at hj
      simp at hj
      exact .inr ⟨by omega, hj.symm⟩
  refine ⟨?_, ?_, plOk_grow h.ok hf hn, by simp, ?_, ?_, ?_, ?_, ?_, ?_⟩
  · cases hq : mget lg ((q.sl.length : Int), 1) with
    | none => rfl
    | some v =>
      obtain ⟨m, g', l, hm, hml, hd⟩ := h.given _ _ hq
      exact (far m g' l hm hml).elim
  · cases hq : mget lo ((q.sl.length : Int), 1) with
    | none => rfl
    | some v =>
      obtain ⟨m, g', l, hm, hml, hd⟩ := h.gone _ _ hq
      exact (far m g' l hm hml).elim
  · intro m g' l hm
    rcases key m _ hm with hm | ⟨_, e⟩
    · have := h.gen _ _ _ hm; omega
    · simp only [Prod.mk.injEq] at e; omega
  · refine List.nodup_append.2 ⟨h.nodup, by simp, fun a ha b hb e => ?_⟩
    obtain ⟨m, hm, hml⟩ := h.lives a ha
    simp at hb; subst hb
    rw [e] at hm
    exact far m _ _ hm hml
  · intro y hy
    rcases List.mem_append.1 hy with hy | hy
    · obtain ⟨m, hm, hml⟩ := h.lives y hy
      exact ⟨m, hm, keep _ _ hml⟩
    · simp at hy; subst hy
      exact ⟨q.sl.length, rfl, by simp⟩
  · have := h.len; show q.n + 1 = _; simp; omega
  · intro y v hy
    rw [mput_get] at hy
    by_cases hyx : y = ((q.sl.length : Int), 1)
    · subst hyx
      exact ⟨q.sl.length, 1, true, rfl, by simp, .inr ⟨rfl, rfl⟩⟩
    · rw [if_neg hyx] at hy
      obtain ⟨m, g', l, hm, hml, hd⟩ := h.given y v hy
      exact ⟨m, g', l, hm, keep _ _ hml, hd⟩
  · intro y v hy
    obtain ⟨m, g', l, hm, hml, hd⟩ := h.gone y v hy
    exact ⟨m, g', l, hm, keep _ _ hml, hd⟩

theorem once_cases {q : Pl} {live : List (Int × Int)} {lg lo : MList (Int × Int)} {k : Nat} (h : Once q live lg lo k) :
    (q.fr = [] ∧ q.sl.length < 128) ∨ (∃ (fs : List Int) (i : Nat) (gen : Int), q.fr = fs ++ [(i : Int)] ∧ q.sl[i]? = some (gen, false)) ∨ (q.fr = [] ∧ q.sl.length = 128) := by
  by_cases hf : q.fr = []
  · have := h.ok.len
    by_cases h2 : q.sl.length < 128
    · exact .inl ⟨hf, h2⟩
    · exact .inr (.inr ⟨hf, by omega⟩)
  · obtain ⟨fs, x, e⟩ : ∃ fs x, q.fr = fs ++ [x] := ⟨q.fr.dropLast, q.fr.getLast hf, (List.dropLast_concat_getLast hf).symm⟩
    obtain ⟨n, g, rfl, hg⟩ := h.ok.free x (by rw [e]; simp)
    exact .inr (.inl ⟨fs, n, g, e, hg⟩)
theorem once_full {q : Pl} {live : List (Int × Int)} {lg lo : MList (Int × Int)} {k : Nat} (h : Once q live lg lo k) (hk : k ≤ 1000) (hf : q.fr = []) (hn : q.sl.length = 128) : live.length = 128 ∧ Once q live lg lo (k + 1) := by
  have h1 := plOk_full h.ok hf hn (fun i g l hi => by have := h.gen i g l hi; omega)
  have h2 := h.len
  exact ⟨by omega, h.ok, by have := h.frs; omega, fun i g l hi => by have := h.gen i g l hi; omega, h.nodup, h.lives, h.len, h.given, h.gone⟩
end Go.Proofs.YteafeejdekihpaaDoor
