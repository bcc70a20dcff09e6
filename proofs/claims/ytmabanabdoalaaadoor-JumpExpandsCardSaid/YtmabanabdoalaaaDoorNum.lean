/- Package paddocknum's Num: an error's number, by the text of errors.Is. -/
import Derived.Test.YtmabanabdoalaaaDoorRow
import Derived.LaidEql
import Derived.LaidLaws
import Derived.Stop.Asserts
import Derived.Stop.LaidErr
import Derived.RowKitTokens
import Derived.Test.YtmabanabdoalaaaDoorLaws
namespace Go.Proofs.YtmabanabdoalaaaDoor
open Go.RowKit Go.Extern.Stop Go.Stop Go.Extern Go.Extern.Rtype Go.ChangeShapes

theorem isTypeOf (v : Value) (w : World) : (Extern.ReflectliteType.typeOf #[.iface 137 v]).run Tryd.prog w = .ok (.iface 123 (.agg #[.pointer (some ⟨10, 137, none⟩)])) w := by kernel_rfl
theorem isComparable (w : World) : ((Extern.ReflectliteType.method fun t => do noPackHeld "Comparable" t; pure (.bool (← typeInfo t).comparable)) #[.agg #[.pointer (some ⟨10, 137, none⟩)]]).run Tryd.prog w = .ok (.bool true) w := by kernel_rfl
theorem callTypeOf (v : Value) (w : World) : (callFunc 65 #[.iface 137 v]).run Tryd.prog w = .ok (.value (.iface 123 (.agg #[.pointer (some ⟨10, 137, none⟩)]))) w := by
  rw [@run_callFunc_extern Tryd.prog 65 _ Extern.ReflectliteType.typeOf Tryd.func65 (by kernel_rfl) (by kernel_rfl) (by kernel_rfl) (by kernel_rfl), isTypeOf]
  rfl
theorem callComparable (w : World) : (callFunc 101 #[.agg #[.pointer (some ⟨10, 137, none⟩)]]).run Tryd.prog w = .ok (.value (.bool true)) w := by
  rw [@run_callFunc_extern Tryd.prog 101 _ (Extern.ReflectliteType.method fun t => do noPackHeld "Comparable" t; pure (.bool (← typeInfo t).comparable)) Tryd.func101 (by kernel_rfl) (by kernel_rfl) (by kernel_rfl) (by kernel_rfl), isComparable]
  rfl
theorem isMethodComparable (v : Value) (w : World) : (Go.method 274 123 v "Comparable").run Tryd.prog w = .ok (101, v) w := by kernel_rfl
theorem isComp : (Tryd.prog.info? 137).map (·.comparable) = some true := by kernel_rfl
theorem isSize : (Tryd.prog.info? 162).map (·.size) = some 1 := by kernel_rfl
theorem noIsE (v : Value) (xT : TypeId) (w : World) : (Instr.typeAssert (.iface 137 v) xT 125 true).run Tryd.prog w = .ok (.tuple #[.nilIface, .bool false]) w := run_typeAssert_lacksB Tryd.underlying125 (by kernel_rfl) (by kernel_rfl) v xT w
theorem noUnwrapE (v : Value) (xT : TypeId) (w : World) : (Instr.typeAssert (.iface 137 v) xT 128 true).run Tryd.prog w = .ok (.tuple #[.nilIface, .bool false]) w := run_typeAssert_lacksB Tryd.underlying128 (by kernel_rfl) (by kernel_rfl) v xT w
theorem noUnwrapsE (v : Value) (xT : TypeId) (w : World) : (Instr.typeAssert (.iface 137 v) xT 129 true).run Tryd.prog w = .ok (.tuple #[.nilIface, .bool false]) w := run_typeAssert_lacksB Tryd.underlying129 (by kernel_rfl) (by kernel_rfl) v xT w

set_option maxRecDepth 100000 in
/-- errors.Is(x, x) -/
theorem is_same (a : Addr) (w : World) :
    Calls Tryd.prog 41 #[.iface 137 (.pointer (some a)), .iface 137 (.pointer (some a))] w fun e w' => e = .returned (.bool true) ∧ w' = w := by
  obtain ⟨i, hi, hcmp⟩ := Option.map_eq_some_iff.1 isComp
  obtain ⟨j, hj, hjs⟩ := Option.map_eq_some_iff.1 isSize
  have h8 := callTypeOf
  have h32 := callComparable
  have mR := isMethodComparable
  have heq := run_eql_iface_ptr_same (P := Tryd.prog) w a Tryd.underlying41 Tryd.underlying137 hi hcmp hj
  go_enter Tryd.func41, Tryd.ntmps41
  go_wp2
  refine wp_loop_rounds 1 ?_
  rw [rounds_succ]
  go_wp2
  go_ret
  exact ⟨rfl, rfl⟩

set_option maxRecDepth 100000 in
/-- errors.Is(x, y), two different sentinels -/
theorem is_other (a b : Addr) (ca cb : Array Value) (ta tb : TypeId) (w : World) (hne : a ≠ b) (ha : w.heap[a.block]? = some (.cells ca ta (0, 0))) (hb : w.heap[b.block]? = some (.cells cb tb (0, 0))) :
    Calls Tryd.prog 41 #[.iface 137 (.pointer (some a)), .iface 137 (.pointer (some b))] w fun e w' => e = .returned (.bool false) ∧ w' = w := by
  obtain ⟨i, hi, hcmp⟩ := Option.map_eq_some_iff.1 isComp
  obtain ⟨j, hj, hjs⟩ := Option.map_eq_some_iff.1 isSize
  have h8 := callTypeOf
  have h32 := callComparable
  have mR := isMethodComparable
  have nE := noIsE
  have uE := noUnwrapE
  have vE := noUnwrapsE
  have heq := run_eql_iface_ptr_other (P := Tryd.prog) w Tryd.underlying41 Tryd.underlying137 hi hcmp hj (by rw [hjs]; decide) hne ha hb
  go_enter Tryd.func41, Tryd.ntmps41
  go_wp2
  refine wp_loop_rounds 1 ?_
  rw [rounds_succ]
  go_wp2
  go_ret
  exact ⟨rfl, rfl⟩

/-- a sentinel -/
def errV (a : Addr) : Value := .iface 137 (.pointer (some a))
/-- the ten sentinels stand in their variables, and are ten -/
structure Errs (L : List (Nat × Obj)) (er : Nat → Addr) : Prop where
  inj : ∀ i j, i < 10 → j < 10 → er i = er j → i = j
  at' : ∀ i, i < 10 → ∃ c t, ((er i).block, Obj.cells c t (0, 0)) ∈ L
  v0 : Var L 1 (errV (er 0))
  v1 : Var L 3 (errV (er 1))
  v2 : Var L 0 (errV (er 2))
  v3 : Var L 4 (errV (er 3))
  v4 : Var L 5 (errV (er 4))
  v5 : Var L 6 (errV (er 5))
  v6 : Var L 7 (errV (er 6))
  v7 : Var L 8 (errV (er 7))
  v8 : Var L 2 (errV (er 8))
  v9 : Var L 9 (errV (er 9))
theorem Errs.mono {L M : List (Nat × Obj)} {er : Nat → Addr} (h : Errs L er) (hs : ∀ x ∈ L, x ∈ M) : Errs M er :=
  ⟨h.inj, fun i hi => by obtain ⟨c, t, hm⟩ := h.at' i hi; exact ⟨c, t, hs _ hm⟩, h.v0.mono hs, h.v1.mono hs, h.v2.mono hs, h.v3.mono hs, h.v4.mono hs, h.v5.mono hs, h.v6.mono hs, h.v7.mono hs, h.v8.mono hs, h.v9.mono hs⟩
/-- an error by its number: 0 of none -/
def codeV (er : Nat → Addr) : Nat → Value
  | 0 => .nilIface
  | n + 1 => errV (er n)

theorem num_nil (w : World) : Calls Tryd.prog 18 #[.nilIface] w fun e w' => e = .returned (.int .i64 0) ∧ Below w.heap.size w w' := by
  go_enter Tryd.func18, Tryd.ntmps18
  go_wp2_with fail
  go_ret
  exact ⟨rfl, Below.refl _ _⟩
theorem num_err {W w : World} {L : List (Nat × Obj)} {er : Nat → Addr} (hS : SH W w L) (hE : Errs L er) (m : Nat) (hm : m < 10) :
    Calls Tryd.prog 18 #[errV (er m)] w fun e w' => e = .returned (.int .i64 (m + 1 : Nat)) ∧ Below w.heap.size w w' := by
  have l0 := hE.v0.cell hS
  have l1 := hE.v1.cell hS
  have l2 := hE.v2.cell hS
  have l3 := hE.v3.cell hS
  have l4 := hE.v4.cell hS
  have l5 := hE.v5.cell hS
  have l6 := hE.v6.cell hS
  have l7 := hE.v7.cell hS
  have l8 := hE.v8.cell hS
  have l9 := hE.v9.cell hS
  have HE := Lib.hid hE
  have HS := Lib.hid hS
  clear hE hS
  simp only [errV] at l0 l1 l2 l3 l4 l5 l6 l7 l8 l9 ⊢
  go_enter Tryd.func18, Tryd.ntmps18
  go_wp2_with fail
  have HA := Lib.hid (HS.out.alloc (.cells #[errV (er 0), errV (er 1), errV (er 2), errV (er 3), errV (er 4), errV (er 5), errV (er 6), errV (er 7), errV (er 8), errV (er 9)] 41))
  simp only [errV] at HA
  go_loopw [21] (fun t wr => ∃ k : Nat, t = .int .i64 k ∧ k ≤ m ∧ Hid (wr = w.alloc (.cells #[errV (er 0), errV (er 1), errV (er 2), errV (er 3), errV (er 4), errV (er 5), errV (er 6), errV (er 7), errV (er 8), errV (er 9)] 41))) (fun t _ => 10 - (intOf t).toNat)
  case atStart => exact ⟨0, rfl, Nat.zero_le _, rfl⟩
  case round =>
    obtain ⟨k, rfl, hk, H⟩ := hrel
    obtain rfl := H.out
    have hc : (w.alloc (.cells #[errV (er 0), errV (er 1), errV (er 2), errV (er 3), errV (er 4), errV (er 5), errV (er 6), errV (er 7), errV (er 8), errV (er 9)] 41)).cell? ⟨w.heap.size, k, none⟩ = some (errV (er k)) := by
      refine HA.out.cell (.head _) ?_
      have hk10 : k < 10 := by omega
      clear HA H l0 l1 l2 l3 l4 l5 l6 l7 l8 l9
      match k, hk10 with
      | 0, _ => rfl
      | 1, _ => rfl
      | 2, _ => rfl
      | 3, _ => rfl
      | 4, _ => rfl
      | 5, _ => rfl
      | 6, _ => rfl
      | 7, _ => rfl
      | 8, _ => rfl
      | 9, _ => rfl
    have hk10 : k < 10 := by omega
    clear l0 l1 l2 l3 l4 l5 l6 l7 l8 l9 H
    simp only [errV] at hc ⊢
    go_wp2_with fail
    by_cases hkm : k = m
    · subst hkm
      refine (is_same _ _).mono ?_
      rintro e w2 ⟨rfl, rfl⟩
      go_wp2_with fail
      go_ret
      exact ⟨by simp, below_alloc _ _⟩
    · obtain ⟨c1, t1, m1⟩ := HE.out.at' m hm
      obtain ⟨c2, t2, m2⟩ := HE.out.at' k hk10
      refine (is_other _ _ c1 c2 t1 t2 _ (fun e => hkm (HE.out.inj _ _ hm hk10 e).symm) (HA.out.at (.tail _ m1)) (HA.out.at (.tail _ m2))).mono ?_
      rintro e w2 ⟨rfl, rfl⟩
      clear hc m1 m2
      go_wp2_with fail
      go_roundw
      case rel => exact ⟨k + 1, by go_num, by omega, trivial⟩
      case measure => simp [intOf]; omega
theorem num_any {W w : World} {L : List (Nat × Obj)} {er : Nat → Addr} (hS : SH W w L) (hE : Errs L er) (c : Nat) (hc : c ≤ 10) :
    Calls Tryd.prog 18 #[codeV er c] w fun e w' => e = .returned (.int .i64 c) ∧ Below w.heap.size w w' := by
  cases c with
  | zero => exact num_nil w
  | succ n => exact num_err hS hE n (by omega)

/-- a list of sentinels, laid -/
theorem laid_list {P : Program} {W : World} {nm : String} {ti tp te ts : TypeId} {ms : Array (String × TypeId)} {f : Field}
    (hi : P.underlying ti = some (.interface ms)) (hrow : ∀ u, P.typeName? 3 u = some nm → u = tp)
    (hp : P.underlying tp = some (.pointer te)) (he : P.underlying te = some (.struct #[f])) (hft : f.type = ts) (hfo : f.offset = 0) (hs : P.underlying ts = some .string) (hc : P.cellsOf te = 1) (hcs : P.cellsOf ts = 1) :
    ∀ (l : List (String × List UInt8)) (ps : List MemPlace), (l.map fun x => (P.globalNamed x.1).bind fun g => (P.globals[g]?).map (·.type)) = l.map (fun _ => some ti) →
    DataW.LaidVars P W (l.map fun x => (x.1, .iface nm (.ptr (.agg [.lit (.string x.2)])))) ps →
    (∀ b off, MemPlace.cell b off ∈ ps → ∀ u v, W.cell? ⟨b, off, none⟩ = some (.iface u v) → Value.okWide P W .any 0 u v) →
    ∃ al : List Addr, al.length = l.length ∧ (∀ (i : Nat) (x : String × List UInt8) (a : Addr), l[i]? = some x → al[i]? = some a → W.var? P x.1 = some #[.iface tp (.pointer (some a))]) ∧ (al.flatMap fun a => MemPlace.row a 1).Sublist ps := by
  intro l
  induction l with
  | nil => intro ps _ h _; exact ⟨[], rfl, by simp, by simp⟩
  | cons x l ih =>
    intro ps hg h hrows
    obtain ⟨n, text⟩ := x
    obtain ⟨g, t, cs, fuel, p, q, hg0, ht0, hv0, hd0, h1, rfl⟩ := h
    simp only [List.map_cons, List.cons.injEq, hg0, Option.bind_some] at hg
    obtain rfl := Option.some.inj (ht0.symm.trans hg.1)
    obtain ⟨al, ha1, ha2, ha3⟩ := ih q hg.2 h1 (fun b off hm => hrows b off (List.mem_append_right _ hm))
    obtain ⟨l0⟩ := cs
    have ok0 : ∀ u v, l0 = [.iface u v] → Value.okWide P W .any 0 u v := fun u v e => by
      subst e
      exact hrows g 0 (by simp [MemPlace.row]) u v (by simpa using World.var?_cell hg0 hv0 0)
    obtain ⟨a0, s0, rfl, hc0, hs0, hz0, rfl⟩ := errorString_of_trod hi hrow hp he hft hfo hs hc hcs hd0 ok0
    refine ⟨a0 :: al, by simp [ha1], fun i y a hi ha => ?_, ?_⟩
    · cases i with
      | zero => simp at hi ha; subst hi ha; exact hv0
      | succ i => exact ha2 i y a (by simpa using hi) (by simpa using ha)
    · simp only [List.flatMap_cons]
      refine List.Sublist.append ?_ ha3
      exact List.sublist_append_right _ _

/-- the ten, as the rows list them -/
def errList : List (String × List UInt8) :=
  [("paddock/api.ErrRange", [112, 97, 100, 100, 111, 99, 107, 58, 32, 114, 97, 110, 103, 101]), ("paddock/api.ErrFull", [112, 97, 100, 100, 111, 99, 107, 58, 32, 102, 117, 108, 108]), ("paddock/api.ErrNone", [112, 97, 100, 100, 111, 99, 107, 58, 32, 110, 111, 110, 101]),
   ("paddock/api.ErrExists", [112, 97, 100, 100, 111, 99, 107, 58, 32, 101, 120, 105, 115, 116, 115]), ("paddock/api.ErrKind", [112, 97, 100, 100, 111, 99, 107, 58, 32, 107, 105, 110, 100]), ("paddock/api.ErrState", [112, 97, 100, 100, 111, 99, 107, 58, 32, 115, 116, 97, 116, 101]),
   ("paddock/api.ErrForm", [112, 97, 100, 100, 111, 99, 107, 58, 32, 102, 111, 114, 109]), ("paddock/api.ErrBlocked", [112, 97, 100, 100, 111, 99, 107, 58, 32, 98, 108, 111, 99, 107, 101, 100]), ("paddock/api.ErrPath", [112, 97, 100, 100, 111, 99, 107, 58, 32, 112, 97, 116, 104]), ("paddock/api.ErrGoal", [112, 97, 100, 100, 111, 99, 107, 58, 32, 103, 111, 97, 108])]
theorem rows_map (al : List Addr) : (al.flatMap fun a => MemPlace.row a 1) = al.map fun a => MemPlace.cell a.block a.off := by
  induction al with
  | nil => rfl
  | cons a al ih => rw [List.flatMap_cons, ih]; simp [MemPlace.row]
theorem row1 (a : Addr) : MemPlace.row a 1 = [.cell a.block a.off] := by simp [MemPlace.row]
set_option maxRecDepth 100000 in
theorem errs_of_laid {W : World} (h : laidMet Tryd.prog (errList.map fun x => (x.1, .iface "*errors.errorString" (.ptr (.agg [.lit (.string x.2)])))) W) : ∃ er, Errs (old W) er := by
  obtain ⟨ps, hv, hnd, hrows⟩ := h
  obtain ⟨al, h1, h2, h3⟩ := laid_list Tryd.underlying41 rowErr Tryd.underlying137 Tryd.underlying162 rfl rfl Tryd.underlying9 cellsES cellsStr errList ps (by kernel_rfl) hv (fun b off hm => (hrows b off hm).2)
  have h1' : al.length = 10 := h1
  have hmem : ∀ a ∈ al, MemPlace.cell a.block a.off ∈ ps := fun a ha => h3.subset (List.mem_flatMap.2 ⟨a, ha, by simp [row1]⟩)
  have hnd2 := h3.nodup hnd
  have hget : ∀ i, i < 10 → al[i]? = some (al[i]?.getD default) := fun i hi => by
    have : i < al.length := by omega
    simp [this]
  have var (i : Nat) (x : String × List UInt8) (g : Nat) (hi : i < 10) (hx : errList[i]? = some x) (hg : Tryd.prog.globalNamed x.1 = some g) : Var (old W) g (errV (al[i]?.getD default)) :=
    var_old hg (h2 i x _ hx (hget i hi))
  refine ⟨fun i => al[i]?.getD default, ?_, ?_, ?_, ?_, ?_, ?_, ?_, ?_, ?_, ?_, ?_, ?_⟩
  · intro i j hi hj e
    rw [rows_map] at hnd2
    have hi' : i < al.length := by omega
    have hj' : j < al.length := by omega
    refine (List.getElem_inj (h₀ := by simpa using hi') (h₁ := by simpa using hj') hnd2).1 ?_
    simp only [List.getElem?_eq_getElem hi', List.getElem?_eq_getElem hj', Option.getD_some] at e
    simp [e]
  · intro i hi
    obtain ⟨c, t, hb⟩ := (hrows _ _ (hmem _ (List.mem_of_getElem? (hget i hi)))).1
    exact ⟨c, t, mem_old.2 hb⟩
  · exact var 0 _ _ (by decide) rfl (by kernel_rfl)
  · exact var 1 _ _ (by decide) rfl (by kernel_rfl)
  · exact var 2 _ _ (by decide) rfl (by kernel_rfl)
  · exact var 3 _ _ (by decide) rfl (by kernel_rfl)
  · exact var 4 _ _ (by decide) rfl (by kernel_rfl)
  · exact var 5 _ _ (by decide) rfl (by kernel_rfl)
  · exact var 6 _ _ (by decide) rfl (by kernel_rfl)
  · exact var 7 _ _ (by decide) rfl (by kernel_rfl)
  · exact var 8 _ _ (by decide) rfl (by kernel_rfl)
  · exact var 9 _ _ (by decide) rfl (by kernel_rfl)
end Go.Proofs.YtmabanabdoalaaaDoor
