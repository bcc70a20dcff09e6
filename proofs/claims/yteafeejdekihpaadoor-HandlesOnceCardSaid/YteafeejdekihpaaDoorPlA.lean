/- Package handles: what New, Count, Next and Lives do. -/
import Derived.Test.YteafeejdekihpaaDoorFl
import Derived.Test.YteafeejdekihpaaDoorNum
namespace Go.Proofs.YteafeejdekihpaaDoor
open Go.RowKit

def encS (s : Int × Bool) : List Value := [.int .i64 s.1, .bool s.2]
theorem encS_len (s : Int × Bool) : (encS s).length = 2 := rfl
def flatS (es : List (Int × Bool)) : List Value := es.flatMap encS
theorem flatS_len (es : List (Int × Bool)) : (flatS es).length = es.length * 2 := flat_len encS 2 encS_len es
theorem flatS_get0 {es : List (Int × Bool)} {sp : List Value} {i : Nat} {x : Int × Bool} (hx : es[i]? = some x) : (flatS es ++ sp).toArray[i * 2]? = some (.int .i64 x.1) := by
  have := flat_get encS 2 encS_len es sp i x hx 0 (by omega)
  simpa [encS, flatS] using this
theorem flatS_get1 {es : List (Int × Bool)} {sp : List Value} {i : Nat} {x : Int × Bool} (hx : es[i]? = some x) : (flatS es ++ sp).toArray[i * 2 + 1]? = some (.bool x.2) := by
  have := flat_get encS 2 encS_len es sp i x hx 1 (by omega)
  simpa [encS, flatS] using this
theorem flatS_set0 {es : List (Int × Bool)} {sp : List Value} {i : Nat} {x : Int × Bool} (hx : es[i]? = some x) (g : Int) : (flatS es ++ sp).toArray.setIfInBounds (i * 2) (.int .i64 g) = (flatS (es.set i (g, x.2)) ++ sp).toArray := by
  have := flat_set1 encS 2 encS_len es sp i x hx 0 (by omega) (.int .i64 g) (g, x.2) rfl
  simp only [Nat.add_zero] at this
  simp [flatS, ← this]
theorem flatS_set1 {es : List (Int × Bool)} {sp : List Value} {i : Nat} {x : Int × Bool} (hx : es[i]? = some x) (b : Bool) : (flatS es ++ sp).toArray.setIfInBounds (i * 2 + 1) (.bool b) = (flatS (es.set i (x.1, b)) ++ sp).toArray := by
  have := flat_set1 encS 2 encS_len es sp i x hx 1 (by omega) (.bool b) (x.1, b) rfl
  simp [flatS, ← this]
def encI (i : Int) : List Value := [.int .i64 i]
theorem encI_len (i : Int) : (encI i).length = 1 := rfl
def flatI (es : List Int) : List Value := es.flatMap encI
theorem flatI_len (es : List Int) : (flatI es).length = es.length := by
  have := flat_len encI 1 encI_len es
  simpa [flatI] using this
theorem flatI_get {es : List Int} {sp : List Value} {i : Nat} {x : Int} (hx : es[i]? = some x) : (flatI es ++ sp).toArray[i]? = some (.int .i64 x) := by
  have := flat_get encI 1 encI_len es sp i x hx 0 (by omega)
  simpa [encI, flatI] using this

/-- a pool: slots, free places, how many live -/
structure Pl where
  sl : List (Int × Bool)
  fr : List Int
  n : Int
def plL (p : Nat) (q : Pl) (st sf : St) : List (Nat × Obj) :=
  (p, .cells #[rowV q.sl.length st, rowV q.fr.length sf, .int .i64 q.n] 126 (0, 0)) :: (rowL 129 (flatS q.sl) st ++ rowL 3 (flatI q.fr) sf)
def PlIs (p : Nat) (q : Pl) (M : List (Nat × Obj)) : Prop := ∃ st sf, rowOk 2 q.sl.length (flatS q.sl) st ∧ rowOk 1 q.fr.length (flatI q.fr) sf ∧ M = plL p q st sf
abbrev PlAt (W w : World) (p : Nat) (q : Pl) (L : List (Nat × Obj)) : Prop := Own (PlIs p q) W w L
def livesP (q : Pl) (h : Int × Int) : Bool := decide (0 ≤ h.1) && (q.sl[h.1.toNat]? == some (h.2, true))
theorem rowV_form' {size n : Nat} {xs : List Value} {st : St} (ok : rowOk size n xs st) : ∃ ao cp, rowV n st = .slice ao n cp := by
  cases st with
  | none => exact ⟨none, 0, by rw [ok.1]; rfl⟩
  | some t => exact ⟨_, _, rfl⟩

theorem plNew_any {W w : World} {L : List (Nat × Obj)} (hS : SH W w L) :
    Calls Tryd.prog 16 #[] w fun e w' => ∃ p, e = .returned (.pointer (some ⟨p, 0, none⟩)) ∧ PlAt W w' p ⟨[], [], 0⟩ L := by
  have HS := Lib.hid hS
  clear hS
  go_enter Tryd.func16, Tryd.ntmps16
  go_wp2
  go_ret
  exact ⟨_, rfl, _, ⟨none, none, ⟨rfl, rfl⟩, ⟨rfl, rfl⟩, rfl⟩, HS.out.alloc _⟩

theorem plCount_any {W w : World} {L : List (Nat × Obj)} {p : Nat} {q : Pl} (hH : PlAt W w p q L) :
    Calls Tryd.prog 21 #[.pointer (some ⟨p, 0, none⟩)] w fun e w' => e = .returned (.int .i64 q.n) ∧ w = w' := by
  obtain ⟨_, ⟨st, sf, _, _, rfl⟩, hS⟩ := hH
  have hp : w.cell? ⟨p, 2, none⟩ = some (.int .i64 q.n) := hS.cell (.head _) (by simp)
  clear hS
  go_enter Tryd.func21, Tryd.ntmps21
  go_wp2
  go_ret
  exact ⟨rfl, rfl⟩

theorem slotEq (w : World) (a c : Int) (b d : Bool) : (binOp .eql 129 (.agg #[.int .i64 a, .bool b]) (.agg #[.int .i64 c, .bool d])).run Tryd.prog w = .ok (.bool (decide (a = c) && decide (b = d))) w := by
  have hp : Tryd.prog.stoodInHeld 129 = false := by kernel_rfl
  have := run_equalIn_struct (P := Tryd.prog) w 9999 129 #[.int .i64 a, .bool b] #[.int .i64 c, .bool d] (by simp [Program.fieldsOf, Tryd.underlying129]) hp
  simp only [binOp]
  have e : (Op.equal 129 (.agg #[.int .i64 a, .bool b]) (.agg #[.int .i64 c, .bool d])).run Tryd.prog w = .ok (decide (a = c) && decide (b = d)) w := by
    show (Op.equalIn (9999 + 1) _ _ _).run _ _ = _
    rw [this]
    simp [go_sem, Program.fieldsOf, Tryd.underlying129]
    by_cases h1 : a = c <;> cases b <;> cases d <;> simp [h1]
  simp [e]
end Go.Proofs.YteafeejdekihpaaDoor
