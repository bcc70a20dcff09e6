/- Package heap: what up and down make of a list: a heap, of the same entries; the first is least. Plain lists. -/
import Derived.Test.YtmabanabdoalaaaDoorHpE
namespace Go.Proofs.YtmabanabdoalaaaDoor

def le (a b : Int × Int) : Prop := ahead b a = false
theorem le_iff (a b : Int × Int) : le a b ↔ a.1 < b.1 ∨ a.1 = b.1 ∧ a.2 ≤ b.2 := by
  simp only [le, ahead, decide_eq_false_iff_not]
  constructor
  · intro h
    by_cases h1 : a.1 < b.1
    · exact .inl h1
    · by_cases h2 : a.1 = b.1
      · exact .inr ⟨h2, by
          by_cases h3 : a.2 ≤ b.2
          · exact h3
          · exact absurd (.inr ⟨h2.symm, by omega⟩) h⟩
      · exact absurd (.inl (by omega)) h
  · intro h h2
    omega
theorem ahead_iff (a b : Int × Int) : ahead a b = true ↔ a.1 < b.1 ∨ a.1 = b.1 ∧ a.2 < b.2 := by simp [ahead]
theorem le_refl (a : Int × Int) : le a a := (le_iff _ _).2 (.inr ⟨rfl, Int.le_refl _⟩)
theorem le_trans {a b c : Int × Int} (h : le a b) (h2 : le b c) : le a c := by rw [le_iff] at *; omega
theorem le_of_ahead {a b : Int × Int} (h : ahead a b = true) : le a b := by rw [le_iff]; rw [ahead_iff] at h; omega
theorem le_antisymm {a b : Int × Int} (h : le a b) (h2 : le b a) : a = b := by
  rw [le_iff] at *
  obtain ⟨a1, a2⟩ := a
  obtain ⟨b1, b2⟩ := b
  simp only [Prod.mk.injEq] at *
  omega

abbrev ent (es : List (Int × Int)) (i : Nat) : Int × Int := es.getD i (0, 0)
theorem swp_ent {es : List (Int × Int)} {i j : Nat} (hi : i < es.length) (hj : j < es.length) (k : Nat) : ent (swp es i j) k = if k = j then ent es i else if k = i then ent es j else ent es k := by
  simp only [ent, swp, List.getD_eq_getElem?_getD, List.getElem?_set, List.length_set]
  by_cases h1 : k = j
  · subst h1; simp [hj]
  · rw [if_neg h1, if_neg (Ne.symm h1)]
    by_cases h2 : k = i
    · subst h2; simp [hi]
    · rw [if_neg h2, if_neg (Ne.symm h2)]
theorem swp_perm (es : List (Int × Int)) {i j : Nat} (hi : i < es.length) (hj : j < es.length) : (swp es i j).Perm es := by
  have h := Array.swap_perm (xs := es.toArray) (i := i) (j := j) (by simpa using hi) (by simpa using hj)
  have h2 := Array.perm_iff_toList_perm.1 h
  have e : (es.toArray.swap i j (by simpa using hi) (by simpa using hj)).toList = swp es i j := by
    simp only [Array.swap, swp]
    simp [hi, hj]
  rw [e] at h2
  exact h2

/-- each entry is at least the one above it -/
def IsHeap (es : List (Int × Int)) : Prop := ∀ c, 0 < c → c < es.length → le (ent es ((c - 1) / 2)) (ent es c)
theorem heap_first {es : List (Int × Int)} (h : IsHeap es) (k : Nat) (hk : k < es.length) : le (ent es 0) (ent es k) := by
  induction k using Nat.strongRecOn with
  | _ k ih =>
    by_cases h0 : k = 0
    · subst h0; exact le_refl _
    · exact le_trans (ih ((k - 1) / 2) (by omega) (by omega)) (h k (by omega) hk)

theorem up_heap (es : List (Int × Int)) (i : Nat) (hi : i < es.length)
    (h1 : ∀ c, 0 < c → c < es.length → c ≠ i → le (ent es ((c - 1) / 2)) (ent es c))
    (h2 : 0 < i → ∀ c, 0 < c → c < es.length → (c - 1) / 2 = i → le (ent es ((i - 1) / 2)) (ent es c)) : IsHeap (upL es i) := by
  induction es, i using upL.induct with
  | case1 es =>
    rw [upL, dif_pos rfl]
    exact fun c hc hl => h1 c hc hl (by omega)
  | case3 es i h0 hn =>
    rw [upL, dif_neg h0, if_neg hn]
    intro c hc hl
    by_cases e : c = i
    · subst e; simpa [le] using hn
    · exact h1 c hc hl e
  | case2 es i h0 ha ih =>
    rw [upL, dif_neg h0, if_pos ha]
    have hq : (i - 1) / 2 < es.length := by omega
    have hqi : (i - 1) / 2 < i := by omega
    refine ih (by rw [swp_len]; exact hq) ?_ ?_
    · intro c hc hl hne
      rw [swp_len] at hl
      rw [swp_ent hq hi, swp_ent hq hi]
      by_cases hci : c = i
      · subst hci
        rw [if_pos rfl, if_neg (by omega), if_pos rfl]
        exact le_of_ahead ha
      · rw [if_neg hci, if_neg hne]
        by_cases hp : (c - 1) / 2 = i
        · rw [if_pos hp]
          exact h2 (by omega) c hc hl hp
        · rw [if_neg hp]
          by_cases hp2 : (c - 1) / 2 = (i - 1) / 2
          · rw [if_pos hp2]
            have := h1 c hc hl hci
            rw [hp2] at this
            exact le_trans (le_of_ahead ha) this
          · rw [if_neg hp2]
            exact h1 c hc hl hci
    · intro hq0 c hc hl hp
      rw [swp_len] at hl
      rw [swp_ent hq hi, swp_ent hq hi, if_neg (by omega), if_neg (by omega)]
      have hb := h1 ((i - 1) / 2) hq0 hq (by omega)
      by_cases hci : c = i
      · rw [if_pos hci]; exact hb
      · rw [if_neg hci, if_neg (by omega)]
        have := h1 c hc hl hci
        rw [hp] at this
        exact le_trans hb this
theorem up_perm (es : List (Int × Int)) (i : Nat) (hi : i < es.length) : (upL es i).Perm es := by
  induction es, i using upL.induct with
  | case1 es => rw [upL, dif_pos rfl]
  | case3 es i h0 hn => rw [upL, dif_neg h0, if_neg hn]
  | case2 es i h0 ha ih =>
    rw [upL, dif_neg h0, if_pos ha]
    exact (ih (by rw [swp_len]; omega)).trans (swp_perm es (by omega) hi)
theorem push_heap {es : List (Int × Int)} (h : IsHeap es) (x : Int × Int) : IsHeap (pushL es x) := by
  have ha : ∀ k, k < es.length → ent (es ++ [x]) k = ent es k := fun k hk => by
    simp [ent, List.getD_eq_getElem?_getD, List.getElem?_append_left hk]
  refine up_heap _ _ (by simp) ?_ ?_
  · intro c hc hl hne
    simp only [List.length_append, List.length_cons, List.length_nil] at hl
    rw [ha c (by omega), ha _ (by omega)]
    exact h c hc (by omega)
  · intro _ c hc hl hp
    simp only [List.length_append, List.length_cons, List.length_nil] at hl
    omega
theorem push_perm (es : List (Int × Int)) (x : Int × Int) : (pushL es x).Perm (x :: es) :=
  (up_perm _ _ (by simp)).trans (List.perm_append_singleton x es)

theorem child_le (es : List (Int × Int)) (i : Nat) (_h : 2 * i + 1 < es.length) (c : Nat) (hc : 0 < c) (hl : c < es.length) (hp : (c - 1) / 2 = i) : le (ent es (child es i)) (ent es c) := by
  have hcc : c = 2 * i + 1 ∨ c = 2 * i + 2 := by omega
  unfold child
  split
  · rename_i hh
    rcases hcc with rfl | rfl
    · exact le_of_ahead hh.2
    · exact le_refl _
  · rename_i hh
    rcases hcc with rfl | rfl
    · exact le_refl _
    · have : ahead (ent es (2 * i + 2)) (ent es (2 * i + 1)) = false := by
        cases hb : ahead (ent es (2 * i + 2)) (ent es (2 * i + 1)) with
        | false => rfl
        | true => exact absurd ⟨hl, hb⟩ hh
      exact this
theorem child_parent (es : List (Int × Int)) (i : Nat) : (child es i - 1) / 2 = i := by unfold child; split <;> omega
theorem down_heap (es : List (Int × Int)) (i : Nat)
    (h1 : ∀ c, 0 < c → c < es.length → (c - 1) / 2 ≠ i → le (ent es ((c - 1) / 2)) (ent es c))
    (h2 : 0 < i → ∀ c, 0 < c → c < es.length → (c - 1) / 2 = i → le (ent es ((i - 1) / 2)) (ent es c)) : IsHeap (downL es i) := by
  induction es, i using downL.induct with
  | case3 es i h =>
    rw [downL, dif_neg h]
    exact fun c hc hl => h1 c hc hl (by omega)
  | case2 es i h hn =>
    rw [downL, dif_pos h, if_neg hn]
    intro c hc hl
    by_cases hp : (c - 1) / 2 = i
    · rw [hp]
      refine le_trans ?_ (child_le es i h c hc hl hp)
      simpa [le] using hn
    · exact h1 c hc hl hp
  | case1 es i h ha ih =>
    rw [downL, dif_pos h, if_pos ha]
    have hb := child_bd es i h
    have hpar := child_parent es i
    have hi : i < es.length := by omega
    refine ih ?_ ?_
    · intro c hc hl hne
      rw [swp_len] at hl
      rw [swp_ent hi hb.2, swp_ent hi hb.2]
      by_cases hcc : c = child es i
      · subst hcc
        rw [if_pos rfl, hpar, if_neg (by omega), if_pos rfl]
        exact le_of_ahead ha
      · rw [if_neg hcc, if_neg hne]
        by_cases hci : c = i
        · subst hci
          rw [if_pos rfl, if_neg (by omega)]
          exact h2 hc _ (by omega) hb.2 hpar
        · rw [if_neg hci]
          by_cases hp : (c - 1) / 2 = i
          · rw [if_pos hp]
            exact child_le es i h c hc hl hp
          · rw [if_neg hp]
            exact h1 c hc hl hp
    · intro _ c hc hl hp
      rw [swp_len] at hl
      have := child_bd es i h
      rw [swp_ent hi hb.2, swp_ent hi hb.2, hpar, if_neg (by omega), if_pos rfl, if_neg (by omega), if_neg (by omega)]
      have := h1 c hc hl (by omega)
      rw [hp] at this
      exact this
theorem down_perm (es : List (Int × Int)) (i : Nat) : (downL es i).Perm es := by
  induction es, i using downL.induct with
  | case3 es i h => rw [downL, dif_neg h]
  | case2 es i h hn => rw [downL, dif_pos h, if_neg hn]
  | case1 es i h ha ih =>
    rw [downL, dif_pos h, if_pos ha]
    have hb := child_bd es i h
    exact ih.trans (swp_perm es (by omega) hb.2)

theorem pop_list (x : Int × Int) (es : List (Int × Int)) : ∃ l, popL x es = downL l 0 ∧ l.Perm es ∧ l.length = es.length ∧ ∀ k, 0 < k → k < es.length → ent l k = ent (x :: es) k := by
  refine ⟨_, rfl, ?_, by simp, ?_⟩
  · rcases List.eq_nil_or_concat es with rfl | ⟨l, a, rfl⟩
    · simp
    · have : ((x :: l.concat a).set 0 ((x :: l.concat a).getD (l.concat a).length (0, 0))).take (l.concat a).length = a :: l := by
        simp
      rw [this]
      simpa using (List.perm_append_singleton a l).symm
  · intro k hk hl
    simp only [ent, List.getD_eq_getElem?_getD, List.getElem?_take, if_pos hl, List.getElem?_set, if_neg (Nat.ne_of_lt hk)]
theorem pop_heap {x : Int × Int} {es : List (Int × Int)} (h : IsHeap (x :: es)) : IsHeap (popL x es) := by
  obtain ⟨l, e, _, hl, hk⟩ := pop_list x es
  rw [e]
  refine down_heap l 0 ?_ (fun h0 => absurd h0 (by omega))
  intro c hc hcl hp
  rw [hl] at hcl
  rw [hk c hc hcl, hk _ (by omega) (by omega)]
  exact h c hc (by simp; omega)
theorem pop_perm (x : Int × Int) (es : List (Int × Int)) : (popL x es).Perm es := by
  obtain ⟨l, e, hp, _, _⟩ := pop_list x es
  rw [e]
  exact (down_perm l 0).trans hp
theorem pop_least {x : Int × Int} {es : List (Int × Int)} (h : IsHeap (x :: es)) : ∀ y ∈ es, le x y := by
  intro y hy
  obtain ⟨k, hk, e⟩ := List.mem_iff_getElem.1 hy
  have := heap_first h (k + 1) (by simpa using hk)
  simpa [ent, hk, e] using this
theorem heap_nil : IsHeap [] := fun c _ h => by simp at h
theorem pushAll_heap (xs es : List (Int × Int)) (h : IsHeap es) : IsHeap (xs.foldl pushL es) := by
  induction xs generalizing es with
  | nil => exact h
  | cons x xs ih => exact ih _ (push_heap h x)
theorem pushAll_perm (xs es : List (Int × Int)) : (xs.foldl pushL es).Perm (es ++ xs) := by
  induction xs generalizing es with
  | nil => simp
  | cons x xs ih =>
    refine (ih _).trans (((push_perm es x).append_right xs).trans ?_)
    simpa using List.perm_middle.symm
end Go.Proofs.YtmabanabdoalaaaDoor
