/- slices.ContainsFunc and IndexFunc over Expand's closure. -/
import Derived.Test.YtmabanabdoalaaaDoorSb
namespace Go.Proofs.YtmabanabdoalaaaDoor
open Go.RowKit

section
variable {W w : World} {L : List (Nat × Obj)} {p B : Nat} {g : Gd}
/-- the variable that the closure holds -/
def gvO (p : Nat) : Obj := .cells #[.pointer (some ⟨p, 0, none⟩)] 28 (0, 0)
theorem exp1_any (hS : SH W w L) (hG : GdIn L p g) (hB : (B, gvO p) ∈ L) (t : Int) :
    Calls Tryd.prog 39 #[.int .i64 t, .pointer (some ⟨B, 0, none⟩)] w fun e w' => e = .returned (.bool (!g.fre t)) ∧ w = w' := by
  have c0 : w.cell? ⟨B, 0, none⟩ = some (.pointer (some ⟨p, 0, none⟩)) := hS.cell hB rfl
  have HS := Lib.hid (And.intro hS hG)
  clear hS hG hB
  go_enter Tryd.func39, Tryd.ntmps39
  go_wp2_with fail
  refine (fre_any HS.out.1 HS.out.2 t).mono ?_
  rintro e w1 ⟨rfl, rfl⟩
  go_wp2_with fail
  go_ret
  exact ⟨rfl, rfl⟩
def expV (B : Nat) : Value := .func (.func 39) #[] #[.pointer (some ⟨B, 0, none⟩)]
set_option maxHeartbeats 800000 in
theorem index_any (hS : SH W w L) (hG : GdIn L p g) (hB : (B, gvO p) ∈ L) {v : Value} {xs : List Int} (hx : Sl encI 1 L v xs) (hn : xs.length ≤ 100000) :
    Calls Tryd.prog 64 #[v, expV B] w fun e w' => ∃ j : Int, e = .returned (.int .i64 j) ∧ decide (0 ≤ j) = xs.any (fun x => !g.fre x) ∧ w = w' := by
  obtain ⟨R, hR⟩ : ∃ R, xs.any (fun x => !g.fre x) = R := ⟨_, rfl⟩
  rw [hR]
  have HR := Lib.hid hR
  have HS := Lib.hid (And.intro hS (And.intro hG hB))
  obtain ⟨a, c, rfl, hc, hra⟩ := hx
  have HA := Lib.hid hra
  clear hS hG hB hra hR
  simp only [expV]
  go_enter Tryd.func64, Tryd.ntmps64
  go_wp2_with fail
  go_loop [8] (fun i => ∃ k : Nat, i = .int .i64 k ∧ k ≤ xs.length ∧ Hid ((xs.take k).any (fun x => !g.fre x) = false)) (fun i => xs.length - (intOf i).toNat)
  case atStart => exact ⟨0, rfl, Nat.zero_le _, (show (xs.take 0).any _ = false by simp)⟩
  case round =>
    obtain ⟨k, rfl, hk, H⟩ := hrel
    by_cases hlt : k < xs.length
    · obtain ⟨x, hxk⟩ : ∃ x, xs[k]? = some x := ⟨xs[k], by simp [hlt]⟩
      rcases HA.out with h0 | ⟨b, off, cc, E, fr, rfl, hm, hcell⟩
      · rw [h0] at hlt; simp at hlt
      have hc0 : w.cell? ⟨b, off + k, none⟩ = some (.int .i64 x) := HS.out.1.cell hm (by simpa using hcell k _ hxk 0 _ rfl)
      have Hxk := Lib.hid hxk
      clear hm hcell hxk
      go_wp2_with fail
      refine (exp1_any HS.out.1 HS.out.2.1 HS.out.2.2 x).mono ?_
      rintro e w1 ⟨rfl, rfl⟩
      cases hf : g.fre x with
      | false =>
        have HZ : Hid (R = true) := by
          rw [← HR.out]
          exact List.any_eq_true.2 ⟨x, List.mem_of_getElem? Hxk.out, by simp [hf]⟩
        clear hc0 hf
        go_wp2_with fail
        go_ret
        exact ⟨k, rfl, by rw [HZ.out]; simp, rfl⟩
      | true =>
        have HF : Hid ((xs.take (k + 1)).any (fun x => !g.fre x) = false) := by
          show (xs.take (k + 1)).any (fun x => !g.fre x) = false
          rw [List.take_add_one, Hxk.out, List.any_append, H.out]
          simp [hf]
        clear hc0 hf H
        go_wp2_with fail
        go_round
        case rel => exact ⟨k + 1, by go_num, by omega, HF⟩
        case measure => simp [intOf]; omega
    · have hk2 : k = xs.length := by omega
      have HZ : Hid (R = false) := by
        rw [← HR.out]
        have := H.out
        rw [hk2, List.take_length] at this
        exact this
      clear hk2 H
      go_wp2_with fail
      go_ret
      exact ⟨-1, rfl, by rw [HZ.out]; rfl, rfl⟩
theorem contains_any (hS : SH W w L) (hG : GdIn L p g) (hB : (B, gvO p) ∈ L) {v : Value} {xs : List Int} (hx : Sl encI 1 L v xs) (hn : xs.length ≤ 100000) :
    Calls Tryd.prog 38 #[v, expV B] w fun e w' => e = .returned (.bool (xs.any (fun x => !g.fre x))) ∧ w = w' := by
  have HI := Lib.hid (index_any hS hG hB hx hn)
  obtain ⟨R, hR⟩ : ∃ R, xs.any (fun x => !g.fre x) = R := ⟨_, rfl⟩
  rw [hR] at HI ⊢
  clear hS hG hB hx hR
  simp only [expV] at HI ⊢
  go_enter Tryd.func38, Tryd.ntmps38
  go_wp2_with fail
  refine HI.out.mono ?_
  rintro e w1 ⟨j, rfl, hj, rfl⟩
  have HJ := Lib.hid hj
  clear hj
  go_wp2_with fail
  go_ret
  exact ⟨by rw [← HJ.out]; rfl, rfl⟩
end
end Go.Proofs.YtmabanabdoalaaaDoor
