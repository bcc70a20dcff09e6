/- What a law's row gives its walk: the listed variables as known blocks; the door's world as a witness. -/
import Derived.Test.YtmabanabdoalaaaDoorOpen
import Derived.Test.YtmabanabdoalaaaDoorCards
import Derived.Test.YtmabanabdoalaaaDoorTie
import Derived.LaidLaws
import Derived.LaidHandle
import Derived.LaidMore
import Derived.Stop.LaidErr
import Derived.ChangeVars
import Derived.JoinedOf
namespace Go.Proofs.YtmabanabdoalaaaDoor
open Go.ChangeShapes Go.WideShapes Go.ChangeAt Go.RowKit Go.Deep

theorem own : ownKnob Tryd.prog.godebug = none := by kernel_rfl
theorem laidOut : laidOutB Tryd.prog = true := by kernel_rfl
theorem starErr : "*errors.errorString" = "*" ++ "errors.errorString" := by decide
theorem rowErr (u : TypeId) (h : Tryd.prog.typeName? 3 u = some "*errors.errorString") : u = 137 :=
  typeName_ptr_named (nm := "errors.errorString") (by rw [← starErr]; kernel_rfl) (by kernel_rfl) (by decide) u (by rw [← starErr]; exact h)
theorem cellsES : Tryd.prog.cellsOf 162 = 1 := by kernel_rfl
theorem cellsStr : Tryd.prog.cellsOf 9 = 1 := by kernel_rfl

theorem var_old {P : Program} {W : World} {n : String} {g : Nat} {v : Value} (hg : P.globalNamed n = some g) (h : W.var? P n = some #[v]) : Var (old W) g v := by
  unfold World.var? at h
  simp only [hg, Option.bind_some] at h
  split at h
  · rename_i cs E fr hb
    simp only [Option.some.injEq] at h
    subst h
    exact ⟨E, fr, mem_old.2 hb⟩
  · simp at h
/-- a sentinel at the head of the list -/
theorem sentinel {n : String} {text : List UInt8} {r : List (String × DataW Unit)} {W : World} {g : Nat}
    (h : laidMet Tryd.prog ((n, .iface "*errors.errorString" (.ptr (.agg [.lit (.string text)]))) :: r) W) (hg : Tryd.prog.globalNamed n = some g) (ht : (Tryd.prog.globals[g]?).map (·.type) = some 41) :
    ∃ a, Var (old W) g (.iface 137 (.pointer (some a))) := by
  obtain ⟨a, s, h1, _⟩ := laid_sentinel h hg ht Tryd.underlying41 rowErr Tryd.underlying137 Tryd.underlying162 rfl rfl Tryd.underlying9 cellsES cellsStr
  exact ⟨a, var_old hg h1⟩
end Go.Proofs.YtmabanabdoalaaaDoor
