/- slices.Reverse on a row of one's own; package jump: what Search answers where it finds a way. -/
import Derived.Test.YtmabanabdoalaaaDoorSd
import Derived.Deep.RegionWith
namespace Go.Proofs.YtmabanabdoalaaaDoor
open Go.RowKit

def mkA {α : Type} (n : Nat) (f : Nat → α) : List α := (List.range n).map f
theorem mkA_len {α : Type} (n : Nat) (f : Nat → α) : (mkA n f).length = n := by simp [mkA]
theorem mkA_get {α : Type} {n k : Nat} {f : Nat → α} (h : k < n) : (mkA n f)[k]? = some (f k) := by simp [mkA, h]
theorem mkA_set {α : Type} {n k : Nat} {f h : Nat → α} {b : α} (hb : h k = b) (hf : ∀ i, i ≠ k → h i = f i) : (mkA n f).set k b = mkA n h := by
  apply List.ext_getElem?
  intro i
  by_cases hi : i < n
  · by_cases hk : k = i
    · subst hk
      rw [List.getElem?_set_self (by simpa [mkA] using hi)]
      simp [mkA, hi, hb]
    · rw [List.getElem?_set_ne hk]
      simp [mkA, hi, hf i (Ne.symm hk)]
  · rw [List.getElem?_eq_none (by simp [mkA]; omega), List.getElem?_eq_none (by simp [mkA]; omega)]
theorem mkA_congr {α : Type} {n : Nat} {f h : Nat → α} (hf : ∀ i, i < n → f i = h i) : mkA n f = mkA n h := by
  unfold mkA
  exact List.map_congr_left fun i hi => hf i (by simpa using hi)
theorem mkA_rep {α : Type} (n : Nat) (b : α) : List.replicate n b = mkA n (fun _ => b) := by simp [mkA, List.map_const']
/-- the list of which the outer a are turned round -/
def turned (zs : List Int) (a : Nat) : List Int := mkA zs.length fun k => if k < a ∨ zs.length - 1 - a < k then zs.getD (zs.length - 1 - k) 0 else zs.getD k 0
theorem turned_zero (zs : List Int) : turned zs 0 = zs := by
  apply List.ext_getElem?
  intro i
  by_cases hi : i < zs.length
  · rw [turned, mkA_get hi, if_neg (by omega)]
    simp [hi]
  · rw [List.getElem?_eq_none (by simp [turned, mkA_len]; omega), List.getElem?_eq_none (by omega)]
theorem turned_all {zs : List Int} {a : Nat} (h : zs.length ≤ 2 * a + 1) : turned zs a = zs.reverse := by
  apply List.ext_getElem?
  intro i
  by_cases hi : i < zs.length
  · rw [turned, mkA_get hi, List.getElem?_reverse hi]
    have hj : zs.length - 1 - i < zs.length := by omega
    by_cases hc : i < a ∨ zs.length - 1 - a < i
    · rw [if_pos hc]; simp [hj]
    · rw [if_neg hc]
      have : i = zs.length - 1 - i := by omega
      rw [← this]
      simp [hi]
  · rw [List.getElem?_eq_none (by simp [turned, mkA_len]; omega), List.getElem?_eq_none (by simp; omega)]
theorem turned_len (zs : List Int) (a : Nat) : (turned zs a).length = zs.length := mkA_len _ _
theorem turned_lo {zs : List Int} {a : Nat} (h : 2 * a + 1 < zs.length) : (turned zs a)[a]? = some (zs.getD a 0) := by
  rw [turned, mkA_get (by omega), if_neg (by omega)]
theorem turned_hi {zs : List Int} {a : Nat} (h : 2 * a + 1 < zs.length) : (turned zs a)[zs.length - 1 - a]? = some (zs.getD (zs.length - 1 - a) 0) := by
  rw [turned, mkA_get (by omega), if_neg (by omega)]
theorem turned_step {zs : List Int} {a : Nat} (h : 2 * a + 1 < zs.length) : ((turned zs a).set a (zs.getD (zs.length - 1 - a) 0)).set (zs.length - 1 - a) (zs.getD a 0) = turned zs (a + 1) := by
  unfold turned
  rw [mkA_set (h := fun k => if k = a then zs.getD (zs.length - 1 - a) 0 else if k < a ∨ zs.length - 1 - a < k then zs.getD (zs.length - 1 - k) 0 else zs.getD k 0) (by simp) (fun i hi => by simp [hi]),
    mkA_set (h := fun k => if k = zs.length - 1 - a then zs.getD a 0 else if k = a then zs.getD (zs.length - 1 - a) 0 else if k < a ∨ zs.length - 1 - a < k then zs.getD (zs.length - 1 - k) 0 else zs.getD k 0) (by simp) (fun i hi => by simp [hi])]
  apply mkA_congr
  intro k hk
  by_cases h1 : k = zs.length - 1 - a
  · rw [if_pos h1, if_pos (by omega), h1]
    congr 1; omega
  · rw [if_neg h1]
    by_cases h2 : k = a
    · rw [if_pos h2, if_pos (by omega), h2]
    · rw [if_neg h2]
      by_cases h3 : k < a ∨ zs.length - 1 - a < k
      · rw [if_pos h3, if_pos (by omega)]
      · rw [if_neg h3, if_neg (by omega)]

section
variable {W w : World} {L : List (Nat × Obj)}
theorem setRow {w : World} {r cap k : Nat} {zs : List Int} {sp : List Value} {x : Int} (h : SH W w (rowL 3 (flatI zs) (some (r, cap, sp)) ++ L)) (hk : k < zs.length) :
    SH W (w.setCell ⟨r, k, none⟩ (.int .i64 x)) (rowL 3 (flatI (zs.set k x)) (some (r, cap, sp)) ++ L) := by
  have h1 := h.setAt (i := 0) (off := k) (v := .int .i64 x) rfl
  have e : (flatI zs ++ sp).toArray.setIfInBounds k (.int .i64 x) = (flatI (zs.set k x) ++ sp).toArray := by
    rw [List.setIfInBounds_toArray, set_append_left' _ _ _ _ (by rw [flatI_len]; exact hk), flatI_map, flatI_map, List.map_set]
  rw [e] at h1
  exact h1
set_option maxHeartbeats 1600000 in
theorem reverse_ok {r cap : Nat} {zs : List Int} {sp : List Value} (hS : SH W w (rowL 3 (flatI zs) (some (r, cap, sp)) ++ L)) (_ : zs.length ≤ cap) (hn : zs.length ≤ 100000) :
    Calls Tryd.prog 45 #[.slice (some ⟨r, 0, none⟩) zs.length cap] w fun e w' => e = .returned (.tuple #[]) ∧ SH W w' (rowL 3 (flatI zs.reverse) (some (r, cap, sp)) ++ L) := by
  have HS := Lib.hid hS
  clear hS
  by_cases h0 : zs.length = 0
  · have HZ := Lib.hid (show zs = [] from List.eq_nil_of_length_eq_zero h0)
    go_enter Tryd.func45, Tryd.ntmps45
    go_wp2_with fail
    refine wp_loop_rounds 1 ?_
    rw [rounds_succ]
    go_wp2_with fail
    go_end0
    refine ⟨rfl, ?_⟩
    have := HS.out
    rw [HZ.out] at this ⊢
    exact this
  have hpos : 1 ≤ zs.length := by omega
  clear h0
  go_enter Tryd.func45, Tryd.ntmps45
  go_wp2_with fail
  go_loopw [2, 3] (fun u v wr => ∃ a : Nat, u = .int .i64 a ∧ v = .int .i64 ((zs.length : Int) - 1 - a) ∧ a ≤ zs.length ∧ Hid (SH W wr (rowL 3 (flatI (turned zs a)) (some (r, cap, sp)) ++ L))) (fun u _ _ => zs.length - (intOf u).toNat)
  case atStart => exact ⟨0, rfl, by simp, Nat.zero_le _, by rw [turned_zero]; exact HS.out⟩
  case round =>
    obtain ⟨a, rfl, rfl, ha, H⟩ := hrel
    clear HS
    by_cases hlt : 2 * a + 1 < zs.length
    · have hcmp : (a : Int) < (zs.length : Int) - 1 - a := by omega
      obtain ⟨j, hj⟩ : ∃ j, zs.length - 1 - a = j := ⟨_, rfl⟩
      have hji : (zs.length : Int) - 1 - a = (j : Int) := by omega
      have c0 : wr.cell? ⟨r, a, none⟩ = some (.int .i64 (zs.getD a 0)) := H.out.cell (.head _) (flatI_get (turned_lo hlt))
      have c1 : wr.cell? ⟨r, j, none⟩ = some (.int .i64 (zs.getD j 0)) := by rw [← hj]; exact H.out.cell (.head _) (flatI_get (turned_hi hlt))
      have fz : ∀ o, wr.frozen? ⟨r, o, none⟩ = false := fun o => H.out.free (.head _)
      have hl := H.out.lt (.head _)
      have H2 : Hid (SH W (((wr.setCell ⟨r, a, none⟩ (.int .i64 (zs.getD j 0))).setCell ⟨r, j, none⟩ (.int .i64 (zs.getD a 0))).drew) (rowL 3 (flatI (turned zs (a + 1))) (some (r, cap, sp)) ++ L)) := by
        have h1 := setRow (x := zs.getD j 0) H.out (k := a) (by rw [turned_len]; omega)
        have h2 := (setRow (x := zs.getD a 0) h1 (k := j) (by simp [turned_len]; omega)).drew
        rw [← hj, turned_step hlt, hj] at h2
        exact h2
      rw [hji] at hcmp ⊢
      have hja : a ≠ j := by omega
      have hjl : j < zs.length := by omega
      have Hji := Lib.hid (And.intro hji hj)
      generalize zs.getD a 0 = x at c0 H2
      generalize zs.getD j 0 = y at c1 H2
      clear H hji hj
      go_wp2_with fail
      go_region
      go_wp2_with fail
      go_roundw
      case rel => exact ⟨a + 1, by go_num, by have := Hji.out.1; first | (rw [show ((j : Int) - 1) = (zs.length : Int) - 1 - ((a + 1 : Nat) : Int) by omega]) | (congr 1; omega), by omega, H2⟩
      case measure => simp [intOf]; omega
    · have hcmp : ¬ ((a : Int) < (zs.length : Int) - 1 - a) := by omega
      have H2 : Hid (SH W wr (rowL 3 (flatI zs.reverse) (some (r, cap, sp)) ++ L)) := by
        have := H.out
        rw [turned_all (by omega)] at this
        exact this
      clear H
      go_wp2_with fail
      go_end0
      exact ⟨rfl, H2.out⟩
end
end Go.Proofs.YtmabanabdoalaaaDoor
