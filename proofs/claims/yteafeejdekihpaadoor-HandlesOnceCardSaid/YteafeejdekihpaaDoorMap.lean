/- Maps as blocks that are known: what each operation does, over keys of whatever type. No program in sight. -/
import Derived.Test.YteafeejdekihpaaDoorRow
import Derived.Maps.RangeRun
import Derived.WideKeyEntry
import Derived.DeepKeys5
namespace Go.Proofs.YteafeejdekihpaaDoor
open Go.RowKit Go.Maps Go.WideElems
open Go.ChangeMaps (setBlock)

theorem heap_setBlock {w : World} {b : Nat} {o : Obj} (hb : w.heap[b]? = some o) (o' : Obj) : (setBlock w b o').heap[b]? = some o' := by
  have := lt_of_block hb
  simp [setBlock, this]
theorem heap_setBlock_ne (w : World) {b k : Nat} (h : k ≠ b) (o' : Obj) : (setBlock w b o').heap[k]? = w.heap[k]? := by
  simp [setBlock, Ne.symm h]
theorem SH.setBlock {W w : World} {L : List (Nat × Obj)} {b : Nat} {o : Obj} (h : SH W w ((b, o) :: L)) (o' : Obj) : SH W (setBlock w b o') ((b, o') :: L) := by
  refine ⟨h.os, h.tape, h.output, ?_, h.nodup, ?_⟩
  · have := h.size
    simpa [Go.ChangeMaps.setBlock] using this
  · intro x hx
    rcases List.mem_cons.1 hx with rfl | hx
    · exact heap_setBlock (h.at (.head _)) o'
    · rw [heap_setBlock_ne _ (h.ne (b' := x.1) (o' := x.2) hx).symm]
      exact h.get x (.tail _ hx)

section
variable {κ : Type} [DecidableEq κ]
/-- entries: the key, the element, the stamp -/
abbrev MList (κ : Type) := List (κ × Value × Nat)
def mEs (kv : κ → Value) (l : MList κ) : Array MapEntry := (l.map fun e => MapEntry.mk (kv e.1) e.2.1 e.2.2).toArray
structure MOk (l : MList κ) (clock : Nat) : Prop where
  keys : (l.map (·.1)).Nodup
  born : (l.map (·.2.2)).Nodup
  lt : ∀ e ∈ l, e.2.2 < clock
def mget : MList κ → κ → Option Value
  | [], _ => none
  | e :: l, k => if e.1 = k then some e.2.1 else mget l k
def mput (l : MList κ) (k : κ) (v : Value) (clock : Nat) : MList κ :=
  if k ∈ l.map (·.1) then l.map fun e => if e.1 = k then (e.1, v, e.2.2) else e else l ++ [(k, v, clock)]
def mclock (l : MList κ) (k : κ) (clock : Nat) : Nat := if k ∈ l.map (·.1) then clock else clock + 1
def mdel (l : MList κ) (k : κ) : MList κ := l.filter fun e => e.1 ≠ k

theorem mget_none {l : MList κ} {k : κ} : mget l k = none ↔ k ∉ l.map (·.1) := by
  induction l with
  | nil => simp [mget]
  | cons e l ih =>
    simp only [mget]
    split
    · rename_i h; simp [h]
    · rename_i h
      rw [ih]
      simp only [List.map_cons, List.mem_cons, not_or]
      exact ⟨fun h2 => ⟨fun e2 => h e2.symm, h2⟩, fun h2 => h2.2⟩
theorem mget_mem {l : MList κ} {k : κ} {v : Value} (h : mget l k = some v) : ∃ b, (k, v, b) ∈ l := by
  induction l with
  | nil => simp [mget] at h
  | cons e l ih =>
    obtain ⟨k', v', b'⟩ := e
    simp only [mget] at h
    split at h
    · rename_i h2; simp at h h2; subst h h2; exact ⟨b', .head _⟩
    · obtain ⟨b, hb⟩ := ih h; exact ⟨b, .tail _ hb⟩
theorem mget_of_mem {l : MList κ} (hn : (l.map (·.1)).Nodup) {e : κ × Value × Nat} (h : e ∈ l) : mget l e.1 = some e.2.1 := by
  induction l with
  | nil => simp at h
  | cons a l ih =>
    simp only [List.map_cons, List.nodup_cons] at hn
    simp only [mget]
    rcases List.mem_cons.1 h with rfl | h
    · simp
    · rw [if_neg (fun e1 : a.1 = e.1 => hn.1 (e1 ▸ List.mem_map.2 ⟨e, h, rfl⟩)), ih hn.2 h]
theorem mput_get {l : MList κ} {k k' : κ} {v : Value} {c : Nat} : mget (mput l k v c) k' = if k' = k then some v else mget l k' := by
  unfold mput
  split
  · rename_i hk
    induction l with
    | nil => simp at hk
    | cons e l ih =>
      simp only [List.map_cons, mget]
      by_cases he : e.1 = k
      · simp only [he, if_true]
        by_cases hk' : k = k'
        · simp [hk']
        · rw [if_neg hk', if_neg hk', if_neg (Ne.symm hk')]
          by_cases hm : k ∈ l.map (·.1)
          · rw [ih hm, if_neg (Ne.symm hk')]
          · have : (l.map fun e => if e.1 = k then (e.1, v, e.2.2) else e) = l := by
              conv => rhs; rw [← List.map_id l]
              apply List.map_congr_left
              intro x hx
              rw [if_neg (fun e1 => hm (List.mem_map.2 ⟨x, hx, e1⟩))]; rfl
            rw [this]
      · simp only [he, if_false]
        have hm : k ∈ l.map (·.1) := by
          rcases List.mem_cons.1 hk with h | h
          · exact absurd h.symm he
          · exact h
        by_cases hek : e.1 = k'
        · rw [if_pos hek, if_pos hek, if_neg (fun h => he (hek.trans h))]
        · rw [if_neg hek, if_neg hek, ih hm]
  · rename_i hk
    induction l with
    | nil => simp [mget, eq_comm]
    | cons e l ih =>
      simp only [List.map_cons, List.mem_cons, not_or] at hk
      simp only [List.cons_append, mget]
      by_cases hek : e.1 = k'
      · rw [if_pos hek, if_pos hek, if_neg (fun h : k' = k => hk.1 (h ▸ hek.symm))]
      · rw [if_neg hek, if_neg hek, ih hk.2]
theorem mput_keys {l : MList κ} {k : κ} {v : Value} {c : Nat} : (mput l k v c).map (·.1) = if k ∈ l.map (·.1) then l.map (·.1) else l.map (·.1) ++ [k] := by
  unfold mput
  split
  · rw [List.map_map]
    apply List.map_congr_left
    intro x _
    simp only [Function.comp]
    split <;> rfl
  · simp
theorem mput_ok {l : MList κ} {k : κ} {v : Value} {c : Nat} (h : MOk l c) : MOk (mput l k v c) (mclock l k c) := by
  refine ⟨?_, ?_, ?_⟩
  · rw [mput_keys]
    split
    · exact h.keys
    · rename_i hk
      exact List.nodup_append.2 ⟨h.keys, by simp, fun a ha b hb e => hk (by simp at hb; subst hb; exact e ▸ ha)⟩
  · unfold mput
    split
    · rw [List.map_map]
      have : (l.map ((fun x : κ × Value × Nat => x.2.2) ∘ fun e => if e.1 = k then (e.1, v, e.2.2) else e)) = l.map (·.2.2) := by
        apply List.map_congr_left
        intro x _
        simp only [Function.comp]
        split <;> rfl
      rw [this]; exact h.born
    · rw [List.map_append]
      refine List.nodup_append.2 ⟨h.born, by simp, fun a ha b hb e => ?_⟩
      obtain ⟨x, hx, rfl⟩ := List.mem_map.1 ha
      have := h.lt x hx
      simp at hb
      omega
  · unfold mput mclock
    intro e he
    split at he
    · rename_i hk
      rw [if_pos hk]
      obtain ⟨x, hx, rfl⟩ := List.mem_map.1 he
      have := h.lt x hx
      split <;> exact this
    · rename_i hk
      rw [if_neg hk]
      rcases List.mem_append.1 he with he | he
      · have := h.lt e he; omega
      · simp at he; subst he; simp
omit [DecidableEq κ] in
theorem mok_nil : MOk ([] : MList κ) 0 := ⟨by simp, by simp, by simp⟩
theorem mdel_get {l : MList κ} {k k' : κ} : mget (mdel l k) k' = if k' = k then none else mget l k' := by
  induction l with
  | nil => simp [mdel, mget]
  | cons e l ih =>
    unfold mdel at ih ⊢
    rw [List.filter_cons]
    by_cases he : e.1 = k
    · simp only [he, ne_eq, not_true_eq_false, decide_false, Bool.false_eq_true, if_false]
      rw [ih]
      by_cases hk' : k' = k
      · simp [hk']
      · rw [if_neg hk', if_neg hk']
        simp only [mget, he, if_neg (Ne.symm hk')]
    · simp only [ne_eq, he, not_false_eq_true, decide_true, if_true, mget]
      rw [ih]
      by_cases hek : e.1 = k'
      · rw [if_pos hek, if_pos hek, if_neg (fun h => he (hek.trans h))]
      · rw [if_neg hek, if_neg hek]
theorem mdel_ok {l : MList κ} {k : κ} {c : Nat} (h : MOk l c) : MOk (mdel l k) c :=
  ⟨(List.filter_sublist.map _).nodup h.keys, (List.filter_sublist.map _).nodup h.born, fun e he => h.lt e (List.mem_filter.1 he).1⟩
theorem mdel_keys {l : MList κ} {k : κ} : (mdel l k).map (·.1) = (l.map (·.1)).filter fun x => x ≠ k := by
  unfold mdel
  rw [List.filter_map]; rfl

/-- what is asked of the key's type: its keys may be compared, and different keys are different values -/
structure KeyOf (P : Program) (K : TypeId) (kv : κ → Value) : Prop where
  check : ∀ (w : World) (em : Bool) (k : κ), (Instr.checkKey em 10000 K (kv k)).run P w = .ok () w
  stays : ∀ (w : World) (k : κ), (Instr.keyThatStays (kv k) (kv k)).run P w = .ok (kv k) w
  find : ∀ (w : World) (k : κ) (l : MList κ), (k ∉ l.map (·.1) ∧ (Instr.findKey K (kv k) (mEs kv l).toList).run P w = .ok none w) ∨
    ∃ j v st, l[j]? = some (k, v, st) ∧ (Instr.findKey K (kv k) (mEs kv l).toList).run P w = .ok (some (j, v)) w

variable {P : Program} {K E T : TypeId} {kv : κ → Value} {l : MList κ} {clock b : Nat} {w : World}

/-- a key's type whose values are compared by '==' alone -/
theorem findAsking_at (heq : ∀ (w : World) (a b : κ), (Op.equal K (kv a) (kv b)).run P w = .ok (decide (a = b)) w) (w : World) (k : κ) (l : MList κ) : ∀ i,
    (k ∉ l.map (·.1) ∧ (Instr.findAsking K (kv k) (l.map fun e => MapEntry.mk (kv e.1) e.2.1 e.2.2) i).run P w = .ok none w) ∨
    ∃ j v st, l[j]? = some (k, v, st) ∧ (Instr.findAsking K (kv k) (l.map fun e => MapEntry.mk (kv e.1) e.2.1 e.2.2) i).run P w = .ok (some (i + j, v)) w := by
  induction l with
  | nil => intro i; exact .inl ⟨by simp, by simp [Instr.findAsking]⟩
  | cons e l ih =>
    intro i
    obtain ⟨k', v, st⟩ := e
    by_cases hk : k = k'
    · subst hk
      refine .inr ⟨0, v, st, rfl, ?_⟩
      simp [Instr.findAsking, heq, Result.andThen]
    · rcases ih (i + 1) with ⟨h1, h2⟩ | ⟨j, v', st', h1, h2⟩
      · refine .inl ⟨by simp only [List.map_cons, List.mem_cons, not_or]; exact ⟨hk, h1⟩, ?_⟩
        simp [Instr.findAsking, heq, hk, Result.andThen, h2]
      · refine .inr ⟨j + 1, v', st', by simpa using h1, ?_⟩
        simp [Instr.findAsking, heq, hk, Result.andThen, h2]
        omega
theorem KeyOf.of_eq (hc : ∀ (w : World) (em : Bool) (k : κ), (Instr.checkKey em 10000 K (kv k)).run P w = .ok () w) (hs : ∀ (w : World) (k : κ), (Instr.keyThatStays (kv k) (kv k)).run P w = .ok (kv k) w)
    {fs : Array Field} (hu : P.underlying K = some (.struct fs)) (heq : ∀ (w : World) (a b : κ), (Op.equal K (kv a) (kv b)).run P w = .ok (decide (a = b)) w) : KeyOf P K kv := by
  refine ⟨hc, hs, fun w k l => ?_⟩
  have h0 := findAsking_at heq w k l 0
  have e : (Instr.findKey K (kv k) (mEs kv l).toList).run P w = (Instr.findAsking K (kv k) (l.map fun e => MapEntry.mk (kv e.1) e.2.1 e.2.2) 0).run P w := by
    cases l with
    | nil => simp [Instr.findKey, run_underlying hu, mEs, Instr.findNow, Instr.findAsking, Result.andThen]
    | cons x l => simp [Instr.findKey, run_underlying hu, mEs, Instr.findNow, Instr.sameNow, Result.andThen]
  rw [e]
  simpa using h0
/-- integers as keys -/
theorem KeyOf.int {q : IntKind} (hu : P.underlying K = some (.int q)) : KeyOf P K (fun a : Int => .int q a) := by
  refine ⟨fun w em k => ?_, fun w k => ?_, fun w k l => ?_⟩
  · unfold Instr.checkKey
    simp [run_underlying hu, Result.andThen]
  · simp [Instr.keyThatStays, Instr.sameBits]
  · have : ∀ i, (k ∉ l.map (·.1) ∧ Instr.findNow (.int q) (.int q k) (l.map fun e => MapEntry.mk (.int q e.1) e.2.1 e.2.2) i = some none) ∨
        ∃ j v st, l[j]? = some (k, v, st) ∧ Instr.findNow (.int q) (.int q k) (l.map fun e => MapEntry.mk (.int q e.1) e.2.1 e.2.2) i = some (some (i + j, v)) := by
      induction l with
      | nil => intro i; exact .inl ⟨by simp, rfl⟩
      | cons e l ih =>
        intro i
        obtain ⟨k', v, st⟩ := e
        by_cases hk : k = k'
        · subst hk
          exact .inr ⟨0, v, st, rfl, by simp [Instr.findNow, Instr.sameNow]⟩
        · have hb : (k == k') = false := by simpa using hk
          rcases ih (i + 1) with ⟨h1, h2⟩ | ⟨j, v', st', h1, h2⟩
          · exact .inl ⟨by simp only [List.map_cons, List.mem_cons, not_or]; exact ⟨hk, h1⟩, by simp [Instr.findNow, Instr.sameNow, hb, h2]⟩
          · exact .inr ⟨j + 1, v', st', by simpa using h1, by simp [Instr.findNow, Instr.sameNow, hb, h2]; omega⟩
    rcases this 0 with ⟨h1, h2⟩ | ⟨j, v, st, h1, h2⟩
    · exact .inl ⟨h1, by simp [Instr.findKey, run_underlying hu, mEs, h2, Result.andThen]⟩
    · exact .inr ⟨j, v, st, h1, by simp [Instr.findKey, run_underlying hu, mEs, h2, Result.andThen]⟩

theorem findKey_at (h : KeyOf P K kv) (hok : MOk l clock) (k : κ) (w : World) :
    (mget l k = none ∧ (Instr.findKey K (kv k) (mEs kv l).toList).run P w = .ok none w) ∨
    ∃ j v st, mget l k = some v ∧ l[j]? = some (k, v, st) ∧ (Instr.findKey K (kv k) (mEs kv l).toList).run P w = .ok (some (j, v)) w := by
  rcases h.find w k l with ⟨h1, h2⟩ | ⟨j, v, st, h1, h2⟩
  · exact .inl ⟨mget_none.2 h1, h2⟩
  · exact .inr ⟨j, v, st, mget_of_mem hok.keys (List.mem_of_getElem? h1), h1, h2⟩

/-- 'm[k]', 'v, ok := m[k]' -/
theorem run_lookup_m (h : KeyOf P K kv) (ht : P.underlying T = some (.map K E)) {z : Value} (hz : ∀ u, (zeroValue E).run P u = .ok z u) (hok : MOk l clock) (hb : w.heap[b]? = some (.map (mEs kv l) clock)) (k : κ) (ok : Bool) :
    (Instr.lookup T (.map (some b)) (kv k) ok).run P w = .ok (if ok then .tuple #[(mget l k).getD z, .bool (mget l k).isSome] else (mget l k).getD z) w := by
  rcases findKey_at h hok k w with ⟨h1, h2⟩ | ⟨j, v, st, h1, _, h2⟩
  · cases ok <;> simp [Instr.lookup, run_underlying ht, MapKept.run_getObj_map hb, h.check, h2, hz, Result.andThen, h1]
  · cases ok <;> simp [Instr.lookup, run_underlying ht, MapKept.run_getObj_map hb, h.check, h2, Result.andThen, h1]
theorem run_lookup_nil (h : KeyOf P K kv) (ht : P.underlying T = some (.map K E)) {z : Value} (hz : ∀ u, (zeroValue E).run P u = .ok z u) (k : κ) (ok : Bool) (w : World) :
    (Instr.lookup T (.map none) (kv k) ok).run P w = .ok (if ok then .tuple #[z, .bool false] else z) w := by
  have h2 := (findKey_at h (mok_nil (κ := κ)) k w)
  simp only [mget] at h2
  rcases h2 with ⟨_, h2⟩ | ⟨_, _, _, h2, _⟩
  · simp only [mEs, List.map_nil] at h2
    cases ok <;> simp [Instr.lookup, run_underlying ht, h.check, h2, hz, Result.andThen]
  · cases h2

theorem mEs_set (hok : MOk l clock) {j : Nat} {k : κ} {v u : Value} {st : Nat} (hx : l[j]? = some (k, v, st)) :
    (mEs kv l).modify j (fun e => { e with key := kv k, val := u }) = mEs kv (mput l k u clock) := by
  have hk : k ∈ l.map (·.1) := List.mem_map.2 ⟨_, List.mem_of_getElem? hx, rfl⟩
  apply Array.ext_getElem?
  intro i
  simp only [mEs, mput, if_pos hk, Array.getElem?_modify, List.getElem?_toArray, List.getElem?_map]
  by_cases hij : j = i
  · subst hij
    simp [hx]
  · rw [if_neg hij]
    cases hi : l[i]? with
    | none => rfl
    | some e =>
      have hne : e.1 ≠ k := by
        intro e1
        have hi2 := (List.getElem?_eq_some_iff.1 hi)
        have hj2 := (List.getElem?_eq_some_iff.1 hx)
        obtain ⟨hil, hie⟩ := hi2
        obtain ⟨hjl, hje⟩ := hj2
        have := (List.getElem_inj (i := i) (j := j) (h₀ := by simpa using hil) (h₁ := by simpa using hjl) hok.keys).1 (by simp [hie, hje, e1])
        exact hij this.symm
      simp [hne]
/-- 'm[k] = v' -/
theorem run_mapUpdate_m (h : KeyOf P K kv) (ht : P.underlying T = some (.map K E)) (hok : MOk l clock) (hb : w.heap[b]? = some (.map (mEs kv l) clock)) (k : κ) (v : Value) :
    (Instr.mapUpdate T (.map (some b)) (kv k) v).run P w = .ok () (setBlock w b (.map (mEs kv (mput l k v clock)) (mclock l k clock))) := by
  rcases findKey_at h hok k w with ⟨h1, h2⟩ | ⟨j, u, st, h1, hx, h2⟩
  · have hk := mget_none.1 h1
    have he : (mEs kv l).push ⟨kv k, v, clock⟩ = mEs kv (mput l k v clock) := by
      simp [mEs, mput, if_neg hk]
    simp [Instr.mapUpdate, run_underlying ht, MapKept.run_getObj_map hb, h.check, h2, Result.andThen, MapKept.run_setObj_map _ hb, Go.ChangeMaps.setBlock, he, mclock, if_neg hk]
  · have hk : k ∈ l.map (·.1) := List.mem_map.2 ⟨_, List.mem_of_getElem? hx, rfl⟩
    have hkey : (((mEs kv l)[j]?).map (·.key)).getD (kv k) = kv k := by simp [mEs, hx]
    have he := mEs_set (kv := kv) hok (u := v) hx
    simp [Instr.mapUpdate, run_underlying ht, MapKept.run_getObj_map hb, h.check, h2, Result.andThen, MapKept.run_setObj_map _ hb, Go.ChangeMaps.setBlock, hkey, h.stays, he, mclock, if_pos hk]
/-- 'm[k]++' and its like: the entry is laid, later its element is stored -/
theorem run_mapEntry_m (h : KeyOf P K kv) (ht : P.underlying T = some (.map K E)) {z : Value} (hz : ∀ u, (zeroValue E).run P u = .ok z u) (hok : MOk l clock) (hb : w.heap[b]? = some (.map (mEs kv l) clock)) (k : κ) :
    ∃ st : Nat, (Instr.mapEntry T (.map (some b)) (kv k)).run P w = .ok (.tuple #[(mget l k).getD z, goInt st]) (setBlock w b (.map (mEs kv (mput l k ((mget l k).getD z) clock)) (mclock l k clock))) ∧
      ∀ (w2 : World) (v : Value), w2.heap[b]? = some (.map (mEs kv (mput l k ((mget l k).getD z) clock)) (mclock l k clock)) →
        (Instr.entryStore T (.map (some b)) (goInt st) v).run P w2 = .ok () (setBlock w2 b (.map (mEs kv (mput l k v clock)) (mclock l k clock))) := by
  rcases findKey_at h hok k w with ⟨h1, h2⟩ | ⟨j, u, st, h1, hx, h2⟩
  · have hk := mget_none.1 h1
    have he : ∀ v, (mEs kv l).push ⟨kv k, v, clock⟩ = mEs kv (mput l k v clock) := fun v => by
      simp [mEs, mput, if_neg hk]
    refine ⟨clock, ?_, fun w2 v hw2 => ?_⟩
    · simp [Instr.mapEntry, run_underlying ht, MapKept.run_getObj_map hb, h.check, h2, hz, Result.andThen, MapKept.run_setObj_map _ hb, Go.ChangeMaps.setBlock, he, mclock, if_neg hk, h1]
    · rw [h1, Option.getD_none, ← he] at hw2
      have hidx : ((mEs kv l).push ⟨kv k, z, clock⟩).findIdx? (fun e => ((e.born : Nat) : Int) == ((clock : Nat) : Int)) = some l.length := by
        rw [findIdx_arr]
        refine findIdx_born (e0 := ⟨kv k, z, clock⟩) ?_ ?_
        · simp only [mEs, List.push_toArray, List.map_append, List.map_map, List.map_cons, List.map_nil]
          refine List.nodup_append.2 ⟨by have := hok.born; simpa [Function.comp_def] using this, by simp, fun a ha c hc e => ?_⟩
          obtain ⟨x, hx, rfl⟩ := List.mem_map.1 ha
          have := hok.lt x hx
          simp at hc
          simp only [Function.comp] at e
          omega
        · simp [mEs]
      have hmod : ((mEs kv l).push ⟨kv k, z, clock⟩).modify l.length (fun e => { e with val := v }) = mEs kv (mput l k v clock) := by
        rw [← he]
        apply Array.ext'
        simp only [mEs, List.push_toArray, Array.toList_modify]
        have := modify_last (fun e : MapEntry => { e with val := v }) ⟨kv k, z, clock⟩ (l.map fun e => MapEntry.mk (kv e.1) e.2.1 e.2.2)
        simpa using this
      simp [Instr.entryStore, asInt, asIntOf, MapKept.run_getObj_map hw2, Result.andThen, MapKept.run_setObj_map _ hw2, Go.ChangeMaps.setBlock, goInt, hidx, hmod]
  · have hk : k ∈ l.map (·.1) := List.mem_map.2 ⟨_, List.mem_of_getElem? hx, rfl⟩
    have hkey : (((mEs kv l)[j]?).map (·.key)).getD (kv k) = kv k := by simp [mEs, hx]
    have hborn : (Option.map (fun x : MapEntry => (x.born : Int)) (mEs kv l)[j]?).getD 0 = (st : Int) := by simp [mEs, hx]
    have hself : mput l k u clock = l := by
      unfold mput
      rw [if_pos hk]
      conv => rhs; rw [← List.map_id l]
      apply List.map_congr_left
      intro x hxm
      split
      · rename_i e1
        have := mget_of_mem hok.keys hxm
        rw [e1, h1] at this
        simp only [Option.some.injEq] at this
        rw [this]; rfl
      · rfl
    have hmod0 : (mEs kv l).modify j (fun e => { e with key := kv k }) = mEs kv l := by
      have := mEs_set (kv := kv) hok (u := u) hx
      rw [hself] at this
      rw [← this]
      conv => lhs; rw [this]
      apply Array.ext_getElem?
      intro i
      simp only [Array.getElem?_modify]
      by_cases hij : j = i
      · subst hij; simp [mEs, hx]
      · simp [hij]
    refine ⟨st, ?_, fun w2 v hw2 => ?_⟩
    · simp [Instr.mapEntry, run_underlying ht, MapKept.run_getObj_map hb, h.check, h2, Result.andThen, MapKept.run_setObj_map _ hb, Go.ChangeMaps.setBlock, hkey, h.stays, hborn, mclock, if_pos hk, h1, hself, hmod0]
    · rw [h1, Option.getD_some, hself] at hw2
      have hidx : (mEs kv l).findIdx? (fun e => ((e.born : Nat) : Int) == ((st : Nat) : Int)) = some j := by
        rw [findIdx_arr]
        refine findIdx_born (e0 := ⟨kv k, u, st⟩) ?_ ?_
        · simp only [mEs, List.map_map]
          exact hok.born
        · simp [mEs, hx]
      have hmod : (mEs kv l).modify j (fun e => { e with val := v }) = mEs kv (mput l k v clock) := by
        rw [← mEs_set (kv := kv) hok (u := v) hx]
        apply Array.ext_getElem?
        intro i
        simp only [Array.getElem?_modify]
        by_cases hij : j = i
        · subst hij; simp [mEs, hx]
        · simp [hij]
      simp [Instr.entryStore, asInt, asIntOf, MapKept.run_getObj_map hw2, Result.andThen, MapKept.run_setObj_map _ hw2, Go.ChangeMaps.setBlock, goInt, hidx, hmod, mclock, if_pos hk]

theorem Own.setBlock {Q : List (Nat × Obj) → Prop} {W : World} {L : List (Nat × Obj)} {o : Obj} (h : Own Q W w ((b, o) :: L)) (o' : Obj) : Own Q W (setBlock w b o') ((b, o') :: L) :=
  h.imp fun _ h => ⟨h.1, ((h.2.perm List.perm_middle).setBlock o').perm List.perm_middle.symm⟩
theorem Own.at {Q : List (Nat × Obj) → Prop} {W : World} {L : List (Nat × Obj)} {o : Obj} (h : Own Q W w L) (m : (b, o) ∈ L) : w.heap[b]? = some o := h.SH.at m
/-- all that 'm[k] = m[k] + ..' may do, in either order -/
theorem Own.entry {Q : List (Nat × Obj) → Prop} {W : World} {L : List (Nat × Obj)} (h : KeyOf P K kv) (ht : P.underlying T = some (.map K E)) {z : Value} (hz : ∀ u, (zeroValue E).run P u = .ok z u) (hok : MOk l clock)
    (hS : Own Q W w ((b, .map (mEs kv l) clock) :: L)) (k : κ) (v : Value) : ∃ (st : Nat) (we wf : World),
      (Instr.lookup T (.map (some b)) (kv k) false).run P w = .ok ((mget l k).getD z) w ∧
      (Instr.mapEntry T (.map (some b)) (kv k)).run P w = .ok (.tuple #[(mget l k).getD z, goInt st]) we ∧
      (Instr.lookup T (.map (some b)) (kv k) false).run P we = .ok ((mget l k).getD z) we ∧
      (Instr.entryStore T (.map (some b)) (goInt st) v).run P we = .ok () wf ∧
      Own Q W wf ((b, .map (mEs kv (mput l k v clock)) (mclock l k clock)) :: L) := by
  have hb := hS.at (.head _)
  obtain ⟨st, r2, r4⟩ := run_mapEntry_m h ht hz hok hb k
  have hS2 := hS.setBlock (.map (mEs kv (mput l k ((mget l k).getD z) clock)) (mclock l k clock))
  refine ⟨st, _, _, run_lookup_m h ht hz hok hb k false, r2, ?_, r4 _ v (hS2.at (.head _)), hS2.setBlock _⟩
  have := run_lookup_m h ht hz (mput_ok (k := k) (v := (mget l k).getD z) hok) (hS2.at (.head _)) k false
  rw [mput_get, if_pos rfl] at this
  simpa using this

/-! ranging over a map into which nothing is laid meanwhile -/
def leftN (l : MList κ) (seen : Array Nat) : Nat := (l.filter fun e => !seen.contains e.2.2).length
omit [DecidableEq κ] in
theorem leftN_push {l : MList κ} {seen : Array Nat} {e : κ × Value × Nat} (he : e ∈ l) (hs : seen.contains e.2.2 = false) : leftN l (seen.push e.2.2) < leftN l seen := by
  unfold leftN
  have hle : ∀ l : MList κ, (l.filter fun x => !(seen.push e.2.2).contains x.2.2).length ≤ (l.filter fun x => !seen.contains x.2.2).length := by
    intro l
    induction l with
    | nil => exact Nat.le_refl _
    | cons a l ih =>
      have h2 : (!(seen.push e.2.2).contains a.2.2) = true → (!seen.contains a.2.2) = true := by
        intro h
        simp only [Bool.not_eq_true', Array.contains_push, Bool.or_eq_false_iff] at h ⊢
        exact h.1
      simp only [List.filter_cons]
      by_cases h3 : (!(seen.push e.2.2).contains a.2.2) = true
      · rw [if_pos h3, if_pos (h2 h3)]; simp only [List.length_cons]; omega
      · rw [if_neg h3]
        split
        · simp only [List.length_cons]; omega
        · exact ih
  induction l with
  | nil => simp at he
  | cons a l ih =>
    rcases List.mem_cons.1 he with rfl | he
    · have h1 : (seen.push e.2.2).contains e.2.2 = true := by simp
      simp only [List.filter_cons, h1, hs, Bool.not_true, Bool.not_false, if_true, List.length_cons, Bool.false_eq_true, if_false]
      have := hle l
      omega
    · have := ih he
      have h2 : (!(seen.push e.2.2).contains a.2.2) = true → (!seen.contains a.2.2) = true := by
        intro h
        simp only [Bool.not_eq_true', Array.contains_push, Bool.or_eq_false_iff] at h ⊢
        exact h.1
      simp only [List.filter_cons]
      by_cases h3 : (!(seen.push e.2.2).contains a.2.2) = true
      · rw [if_pos h3, if_pos (h2 h3)]; simp only [List.length_cons]; omega
      · rw [if_neg h3]
        split
        · simp only [List.length_cons]; omega
        · exact this
omit [DecidableEq κ] in
theorem run_range_m {T : TypeId} (ht : P.underlying T = some (.map K E)) (hb : w.heap[b]? = some (.map (mEs kv l) clock)) :
    (Instr.range T (.map (some b))).run P w = .ok (.pointer (some ⟨w.heap.size, 0, none⟩)) (w.alloc (.mapIter (some b) clock #[] clock)) := by
  simp [Instr.range, run_underlying ht, MapKept.run_getObj_map hb, Result.andThen, newObj, Sem.run]
omit [DecidableEq κ] in
theorem Own.next {Q : List (Nat × Obj) → Prop} {W : World} {L : List (Nat × Obj)} {r : Nat} {seen : Array Nat} {ty : TypeId} (hok : MOk l clock)
    (hS : Own Q W w ((r, .mapIter (some b) clock seen clock) :: (b, .map (mEs kv l) clock) :: L)) :
    ((Instr.next (.pointer (some ⟨r, 0, none⟩)) false ty).run P w = .ok (.tuple #[.bool false]) w ∧ ∀ e ∈ l, seen.contains e.2.2 = true) ∨
    ∃ e ∈ l, seen.contains e.2.2 = false ∧ ∃ w', (Instr.next (.pointer (some ⟨r, 0, none⟩)) false ty).run P w = .ok (.tuple #[.bool true, kv e.1, e.2.1]) w' ∧
      (Instr.entry (.pointer (some ⟨r, 0, none⟩))).run P w' = .ok (.tuple #[kv e.1, e.2.1]) w' ∧
      Own Q W w' ((r, .mapIter (some b) clock (seen.push e.2.2) clock) :: (b, .map (mEs kv l) clock) :: L) := by
  have hr := hS.at (.head _)
  have hb := hS.at (.tail _ (.head _))
  have hmem : ∀ x ∈ (mEs kv l).toList, ∃ e ∈ l, x = MapEntry.mk (kv e.1) e.2.1 e.2.2 := by
    intro x hx
    simp only [mEs, List.mem_map] at hx
    obtain ⟨e, he, rfl⟩ := hx
    exact ⟨e, he, rfl⟩
  rcases run_next_at (P := P) w ty r b clock clock seen (mEs kv l) clock hr hb (fun x hx => by obtain ⟨e, he, rfl⟩ := hmem x hx; exact hok.lt e he) (Nat.le_refl _) with ⟨h1, h2⟩ | ⟨x, hx, w1, hw1, h2⟩
  · refine .inl ⟨h2, fun e he => ?_⟩
    cases hc : seen.contains e.2.2 with
    | true => rfl
    | false =>
      have : MapEntry.mk (kv e.1) e.2.1 e.2.2 ∈ (leftOf (mEs kv l) seen) := by
        simp only [leftOf, Array.mem_filter, mEs, List.mem_toArray, List.mem_map]
        exact ⟨⟨e, he, rfl⟩, by simpa using hc⟩
      have h3 := Array.size_pos_of_mem this
      omega
  · have hx2 : x ∈ (mEs kv l).toList ∧ seen.contains x.born = false := by
      simpa [leftOf] using hx
    obtain ⟨e, he, rfl⟩ := hmem x hx2.1
    have hS1 : Own Q W w1 ((r, .mapIter (some b) clock seen clock) :: (b, .map (mEs kv l) clock) :: L) := by
      rcases hw1 with rfl | rfl
      · exact hS
      · exact hS.drew
    have hS2 := hS1.setBlock (.mapIter (some b) clock (seen.push e.2.2) clock)
    refine .inr ⟨e, he, hx2.2, _, h2, ?_, hS2⟩
    refine run_entry_at _ r b clock seen (mEs kv l) clock _ (hS2.at (.head _)) (hS2.at (.tail _ (.head _))) hx2.1 ?_
    simp only [mEs, List.map_map]
    exact hok.born
end
end Go.Proofs.YteafeejdekihpaaDoor
