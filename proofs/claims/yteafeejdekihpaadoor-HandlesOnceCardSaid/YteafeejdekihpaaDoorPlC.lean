/- Package handles: what Next does. -/
import Derived.Test.YteafeejdekihpaaDoorPlB
namespace Go.Proofs.YteafeejdekihpaaDoor
open Go.RowKit

set_option maxHeartbeats 1600000 in
theorem next_free {W w : World} {L : List (Nat × Obj)} {p : Nat} {q : Pl} {fs : List Int} {i : Nat} {g : Int} {l : Bool} (hH : PlAt W w p q L) (hf : q.fr = fs ++ [(i : Int)]) (hi : q.sl[i]? = some (g, l)) (hn : fs.length ≤ 1000) :
    Calls Tryd.prog 63 #[.pointer (some ⟨p, 0, none⟩)] w fun e w' => e = .returned (.tuple #[.agg #[.int .i64 i, .int .i64 g], .nilIface]) ∧ Below w.heap.size w w' := by
  obtain ⟨_, ⟨st, sf, ok, okf, rfl⟩, hS⟩ := hH
  have hlt : i < q.sl.length := (List.getElem?_eq_some_iff.1 hi).1
  have hfl : q.fr.length = fs.length + 1 := by rw [hf]; simp
  cases st with
  | none => rw [ok.1] at hlt; omega
  | some t =>
    cases sf with
    | none => rw [okf.1] at hfl; omega
    | some u =>
      obtain ⟨r, cap, sp⟩ := t
      obtain ⟨r', cap', sp'⟩ := u
      have hle := ok.2.2.1
      have hle' := okf.2.2.1
      have c0 : w.cell? ⟨p, 0, none⟩ = some (.slice (some ⟨r, 0, none⟩) q.sl.length cap) := hS.cell (.head _) rfl
      have c1 : w.cell? ⟨p, 1, none⟩ = some (.slice (some ⟨r', 0, none⟩) (fs.length + 1) cap') := hS.cell (.head _) (by simp [rowV, hfl])
      have c2 : w.cell? ⟨r, i * 2, none⟩ = some (.int .i64 g) := hS.cell (.tail _ (.head _)) (flatS_get0 hi)
      have c3 : w.cell? ⟨r', fs.length, none⟩ = some (.int .i64 i) := hS.cell (.tail _ (.tail _ (.head _))) (flatI_get (by rw [hf]; simp))
      have s0 : p < w.heap.size := hS.lt (.head _)
      have s1 : r < w.heap.size := hS.lt (.tail _ (.head _))
      have s2 : r' < w.heap.size := hS.lt (.tail _ (.tail _ (.head _)))
      rw [hfl] at hle'
      clear hS ok okf hi hf hfl
      go_enter Tryd.func63, Tryd.ntmps63
      go_wp2_with fail
      exact bodyPost_ret (v := .tuple #[.agg #[.int .i64 i, .int .i64 g], .nilIface]) (by simp [results, Tryd.results63, go_sem]) rfl ⟨rfl, below_alloc _ _⟩

set_option maxHeartbeats 1600000 in
theorem next_new {W w : World} {L : List (Nat × Obj)} {p : Nat} {q : Pl} (hH : PlAt W w p q L) (hf : q.fr = []) (hn : q.sl.length < 128) :
    Calls Tryd.prog 63 #[.pointer (some ⟨p, 0, none⟩)] w fun e w' => e = .returned (.tuple #[.agg #[.int .i64 q.sl.length, .int .i64 1], .nilIface]) ∧ Below w.heap.size w w' := by
  obtain ⟨_, ⟨st, sf, ok, okf, rfl⟩, hS⟩ := hH
  obtain ⟨ao, cp, hv⟩ := rowV_form' ok
  obtain ⟨af, cf, hvf⟩ := rowV_form' okf
  have hfl : q.fr.length = 0 := by rw [hf]; rfl
  have c0 : w.cell? ⟨p, 0, none⟩ = some (.slice ao q.sl.length cp) := hS.cell (.head _) (by simp [hv])
  have c1 : w.cell? ⟨p, 1, none⟩ = some (.slice af 0 cf) := hS.cell (.head _) (by rw [hfl] at hvf; simp [hfl, hvf])
  have s0 : p < w.heap.size := hS.lt (.head _)
  have hn' : (q.sl.length : Int) < 128 := by omega
  clear hS ok okf hf hfl hv hvf hn
  go_enter Tryd.func63, Tryd.ntmps63
  go_wp2_with fail
  exact bodyPost_ret (v := .tuple #[.agg #[.int .i64 q.sl.length, .int .i64 1], .nilIface]) (by simp [results, Tryd.results63, go_sem]) rfl ⟨rfl, below_alloc _ _⟩

set_option maxHeartbeats 1600000 in
theorem next_full {W w : World} {L : List (Nat × Obj)} {p : Nat} {q : Pl} {a : Addr} (hH : PlAt W w p q L) (hE : Var L 0 (errV a)) (hf : q.fr = []) (hn : q.sl.length = 128) :
    Calls Tryd.prog 63 #[.pointer (some ⟨p, 0, none⟩)] w fun e w' => e = .returned (.tuple #[.agg #[.int .i64 0, .int .i64 0], errV a]) ∧ Below w.heap.size w w' := by
  have he : w.cell? ⟨0, 0, none⟩ = some (errV a) := hE.cell hH.SH
  have s1 : 0 < w.heap.size := hE.lt hH.SH
  obtain ⟨_, ⟨st, sf, ok, okf, rfl⟩, hS⟩ := hH
  obtain ⟨ao, cp, hv⟩ := rowV_form' ok
  obtain ⟨af, cf, hvf⟩ := rowV_form' okf
  have hfl : q.fr.length = 0 := by rw [hf]; rfl
  have c0 : w.cell? ⟨p, 0, none⟩ = some (.slice ao 128 cp) := hS.cell (.head _) (by rw [hn] at hv; simp [hn, hv])
  have c1 : w.cell? ⟨p, 1, none⟩ = some (.slice af 0 cf) := hS.cell (.head _) (by rw [hfl] at hvf; simp [hfl, hvf])
  have s0 : p < w.heap.size := hS.lt (.head _)
  clear hS ok okf hf hfl hv hvf hn hE
  simp only [errV] at he ⊢
  go_enter Tryd.func63, Tryd.ntmps63
  go_wp2_with fail
  go_region
  all_goals
    go_wp2_with fail
    exact bodyPost_ret (v := .tuple #[.agg #[.int .i64 0, .int .i64 0], .iface 194 (.pointer (some a))]) (by simp [results, Tryd.results63, go_sem]) rfl ⟨rfl, (below_alloc _ _).drew⟩
end Go.Proofs.YteafeejdekihpaaDoor
