/- Package steps: Set and Of; paddocknum.In. -/
import Derived.Test.YtmabanabdoalaaaDoorGa
import Derived.Test.YtmabanabdoalaaaDoorMa
import Derived.OwnWalk
namespace Go.Proofs.YtmabanabdoalaaaDoor
open Go.RowKit

theorem run_make1 {P : Program} (t e : TypeId) (i : TypeInfo) (z : Value) (ht : P.underlying t = some (.slice e)) (hi : P.info? e = some i) (hz : i.zero = some z) (hs : i.size = 1) (hzs : z.cells = #[z]) (hby : i.bytes ≤ 16) (n : Nat) (hn : n ≤ 1000000) (w : World) :
    (Instr.makeSlice t (.int .i64 n) (.int .i64 n)).run P w = .ok (.slice (some ⟨w.heap.size, 0, none⟩) n n) (w.alloc (.cells (Array.replicate n z) e)) := by
  have hb : (i.bytes : Int) * (n : Int) ≤ 281474976710656 := by
    have : (i.bytes : Int) * (n : Int) ≤ 16 * 1000000 := Int.mul_le_mul (by omega) (by omega) (by omega) (by omega)
    omega
  have := run_make (P := P) w t e i z ht hi hz .i64 .i64 n n (by omega) (Int.le_refl _) hb (by omega)
  simp only [Int.toNat_natCast, hs, Nat.mul_one] at this
  rw [this]
  congr 3
  apply Array.ext
  · simp [madeCells]
  · intro j h1 h2
    simp [madeCells, hzs, Nat.mod_one]

def gdO (g : Gd) (r : Nat) : Obj := .cells #[.int .i64 g.w, .int .i64 g.h, .slice (some ⟨r, 0, none⟩) g.fr.length g.fr.length] 93 (0, 0)
def frO (bs : List Bool) : Obj := .cells (bs.map Value.bool).toArray 4 (0, 0)
def gdL (p r : Nat) (g : Gd) : List (Nat × Obj) := [(p, gdO g r), (r, frO g.fr)]
theorem gdIn_L {p r : Nat} {g : Gd} {L : List (Nat × Obj)} : GdIn (gdL p r g ++ L) p g := ⟨r, .head _, .tail _ (.head _)⟩

section
variable {W w : World} {L : List (Nat × Obj)} {p r : Nat} {g : Gd}

theorem num_in_any (hS : SH W w L) {v : Value} {xs : List Int} (hx : Sl encI 1 L v xs) (hn : xs.length ≤ 100000) (t : Int) :
    Calls Tryd.prog 59 #[v, .int .i64 t] w fun e w' => e = .returned (.bool (decide (t ∈ xs))) ∧ w = w' := by
  generalize hb : decide (t ∈ xs) = B
  have HB := Lib.hid hb
  have HX := Lib.hid hx
  have HS := Lib.hid hS
  obtain ⟨a, c, rfl, hc, hr⟩ := hx
  have HR := Lib.hid hr
  clear hS hb hr
  go_enter Tryd.func59, Tryd.ntmps59
  go_wp2_with fail
  go_loop [9] (fun i => ∃ k : Nat, i = .int .i64 k ∧ k ≤ xs.length ∧ Hid (t ∉ xs.take k)) (fun i => xs.length - (intOf i).toNat)
  case atStart => exact ⟨0, rfl, Nat.zero_le _, (show t ∉ xs.take 0 by simp)⟩
  case round =>
    obtain ⟨k, rfl, hk, H⟩ := hrel
    by_cases hlt : k < xs.length
    · obtain ⟨x, hxk⟩ : ∃ x, xs[k]? = some x := ⟨xs[k], by simp [hlt]⟩
      rcases HR.out with h0 | ⟨b, off, cc, E, fr, rfl, hm, hcell⟩
      · rw [h0] at hlt; simp at hlt
      have hc0 : w.cell? ⟨b, off + k, none⟩ = some (.int .i64 x) := HS.out.cell hm (by simpa using hcell k _ hxk 0 _ rfl)
      have Hxk := Lib.hid hxk
      clear hm hcell hxk HR
      by_cases hxt : x = t
      · have k1 : (x == t) = true := by simp [hxt]
        have HQ : Hid (B = true) := by
          rw [← HB.out]; exact decide_eq_true (hxt ▸ List.mem_of_getElem? Hxk.out)
        clear hxt
        go_wp2_with fail
        go_ret
        exact ⟨by rw [HQ.out]; rfl, rfl⟩
      · have k1 : (x == t) = false := by simp [hxt]
        have HN : Hid (t ∉ xs.take (k + 1)) := by
          show t ∉ _
          rw [List.take_add_one, Hxk.out]
          intro h
          rcases List.mem_append.1 h with h | h
          · exact H.out h
          · simp at h; exact hxt h.symm
        clear hxt H
        go_wp2_with fail
        go_round
        case rel => exact ⟨k + 1, by go_num, by omega, HN⟩
        case measure => simp [intOf]; omega
    · have hk2 : k = xs.length := by omega
      have HQ : Hid (B = false) := by
        rw [← HB.out]
        have := H.out
        rw [hk2, List.take_length] at this
        exact decide_eq_false this
      clear hk2
      go_wp2_with fail
      go_ret
      exact ⟨by rw [HQ.out]; rfl, rfl⟩

set_option maxHeartbeats 800000 in
theorem set_ok (hS : SH W w (gdL p r g ++ L)) {t : Nat} (ht : t < g.fr.length) (b : Bool) :
    Calls Tryd.prog 57 #[.pointer (some ⟨p, 0, none⟩), .int .i64 t, .bool b] w fun e w' => e = .returned .nilIface ∧ SH W w' (gdL p r ⟨g.w, g.h, g.fr.set t b⟩ ++ L) := by
  have HS := Lib.hid hS
  have hh : g.has (t : Int) = true := by simp [Gd.has]; exact ht
  obtain ⟨b0, hb0⟩ : ∃ b, g.fr[t]? = some b := ⟨g.fr[t], by simp [ht]⟩
  have HH := Lib.hid hh
  have c2 : w.cell? ⟨p, 2, none⟩ = some (.slice (some ⟨r, 0, none⟩) g.fr.length g.fr.length) := hS.cell (.head _) rfl
  have cr : w.cell? ⟨r, t, none⟩ = some (.bool b0) := hS.cell (.tail _ (.head _)) (bools_get hb0)
  have fz : ∀ o, w.frozen? ⟨r, o, none⟩ = false := fun o => hS.free (.tail _ (.head _))
  have hl : r < w.heap.size := hS.lt (.tail _ (.head _))
  clear hS hh hb0
  go_enter Tryd.func57, Tryd.ntmps57
  go_wp2_with fail
  refine (has_any HS.out gdIn_L t).mono ?_
  rintro e w1 ⟨rfl, rfl⟩
  rw [HH.out]
  go_wp2_with fail
  go_ret
  refine ⟨rfl, ?_⟩
  have h1 := HS.out.setAt (i := 1) (off := t) (v := .bool b) rfl
  have e1 : (g.fr.map Value.bool).toArray.setIfInBounds t (.bool b) = ((g.fr.set t b).map Value.bool).toArray := by
    rw [List.setIfInBounds_toArray, List.map_set]
  rw [e1] at h1
  simpa [gdL, gdO, frO] using h1
end
end Go.Proofs.YtmabanabdoalaaaDoor
