/- Package paddockref16: New. -/
import Derived.Test.YtmabanabdoalaaaDoorMc
import Derived.StillTailTactics
namespace Go.Proofs.YtmabanabdoalaaaDoor
open Go.RowKit

def rgO (g : Gd) (r : Nat) : Obj := .cells #[.int .i64 g.w, .int .i64 g.h, .slice (some ⟨r, 0, none⟩) g.fr.length g.fr.length] 71 (0, 0)
def rgL (p r : Nat) (g : Gd) : List (Nat × Obj) := [(p, rgO g r), (r, frO g.fr)]
/-- the reference's ground stands at p -/
def RgIn (L : List (Nat × Obj)) (p : Nat) (g : Gd) : Prop := ∃ r, (p, rgO g r) ∈ L ∧ (r, frO g.fr) ∈ L
theorem RgIn.mono {L M : List (Nat × Obj)} {p : Nat} {g : Gd} (h : RgIn L p g) (hs : ∀ x ∈ L, x ∈ M) : RgIn M p g := by
  obtain ⟨r, h1, h2⟩ := h
  exact ⟨r, hs _ h1, hs _ h2⟩
theorem rgIn_L {p r : Nat} {g : Gd} {L : List (Nat × Obj)} : RgIn (rgL p r g ++ L) p g := ⟨r, .head _, .tail _ (.head _)⟩

section
variable {W w : World} {L : List (Nat × Obj)}
set_option maxHeartbeats 1600000 in
set_option maxRecDepth 100000 in
theorem new16_ok (hS : SH W w L) {a : Gr} (ha : a.ok = true) {v : Value} {xs : List Int} (hx : Sl encI 1 L v xs) (hn : xs.length ≤ 100000) :
    Calls Tryd.prog 29 #[a.val, v] w fun e w' => ∃ p r, e = .returned (.pointer (some ⟨p, 0, none⟩)) ∧ SH W w' (rgL p r (ofG a xs) ++ L) := by
  have hb := gr_ok ha
  obtain ⟨gw, gh, gs, gx, gy⟩ := a
  simp only at hb
  obtain ⟨gw, rfl⟩ := Int.eq_ofNat_of_zero_le (show 0 ≤ gw by omega)
  obtain ⟨gh, rfl⟩ := Int.eq_ofNat_of_zero_le (show 0 ≤ gh by omega)
  obtain ⟨b1, b2, b3, b4, _⟩ := hb
  obtain ⟨N, hN⟩ : ∃ N, gw * gh = N := ⟨_, rfl⟩
  have hNi : (gw : Int) * (gh : Int) = (N : Int) := by rw [← hN]; simp
  have hN1 : N ≤ 1024 := by rw [← hN]; exact mul_le_1024 (by omega) (by omega)
  have hwr : IntKind.i64.wrap ((gw : Int) * (gh : Int)) = (N : Int) := by rw [hNi]; simp [IntKind.wrap, IntKind.bits, IntKind.signed]; omega
  have hG : ofG ⟨gw, gh, gs, gx, gy⟩ xs = ⟨gw, gh, mkB N (fun k => !decide ((k : Int) ∈ xs))⟩ := by simp [ofG, hN]
  rw [hG]
  have HX := Lib.hid hx
  have hS1 := hS.alloc (.cells #[.int .i64 gw, .int .i64 gh, .int .i64 gs, .int .i64 gx, .int .i64 gy] 23)
  have HS1 := Lib.hid hS1
  have hl1 := hS1.lt (.head _)
  obtain ⟨i0, hi, hz0, hz1, hz2⟩ := info_parts zeroB
  have hmk := (run_make1 (P := Tryd.prog) 69 4 i0 (.bool false) Tryd.underlying69 hi hz0 hz1 rfl (by omega) N (by omega))
  obtain ⟨ao, c, rfl, hc, _⟩ := hx
  clear hi hz0 hz1 hz2 hS hS1 hG hN hNi ha hl1
  simp only [Gr.val]
  go_enter Tryd.func29, Tryd.ntmps29
  go_wp2_with fail
  go_region
  generalize hw1 : w.alloc (.cells #[.int .i64 gw, .int .i64 gh, .int .i64 gs, .int .i64 gx, .int .i64 gy] 23) = w1 at HS1 ⊢
  have hsz : w1.heap.size = w.heap.size + 1 := by rw [← hw1]; simp
  rw [← hsz]
  clear hw1
  have HA := Lib.hid (HS1.out.alloc2 (.cells (Array.replicate N (Value.bool false)) 4) (.cells #[.int .i64 gw, .int .i64 gh, .slice (some ⟨w1.heap.size, 0, none⟩) N N] 71))
  obtain ⟨p, hp⟩ : ∃ p, w1.heap.size + 1 = p := ⟨_, rfl⟩
  obtain ⟨r, hr⟩ : ∃ r, w1.heap.size = r := ⟨_, rfl⟩
  have HA2 : Hid (SH W (((w1.alloc (.cells (Array.replicate N (Value.bool false)) 4)).alloc (.cells #[.int .i64 gw, .int .i64 gh, .slice (some ⟨w1.heap.size, 0, none⟩) N N] 71)).drew) (rgL p r ⟨gw, gh, mkB N (fun i => decide (i < 0 ∧ (i : Int) ∉ xs))⟩ ++ L)) := by
    have h1 := HA.out
    rw [hp, hr] at h1
    have h2 := h1.sub (M := (p, rgO ⟨gw, gh, mkB N (fun i => decide (i < 0 ∧ (i : Int) ∉ xs))⟩ r) :: (r, frO (mkB N (fun i => decide (i < 0 ∧ (i : Int) ∉ xs)))) :: L) (by
      have e : (Array.replicate N (Value.bool false)) = ((mkB N (fun i => decide (i < 0 ∧ (i : Int) ∉ xs))).map Value.bool).toArray := by
        rw [show mkB N (fun i => decide (i < 0 ∧ (i : Int) ∉ xs)) = mkB N (fun _ => false) from mkB_congr (fun i _ => by simp), ← mkB_rep]; simp
      rw [e]
      simp only [rgO, frO, mkB_len]
      exact ((List.sublist_cons_self _ _).cons_cons _).cons_cons _)
    rw [← hr] at h2 ⊢
    exact h2
  generalize (((w1.alloc (.cells (Array.replicate N (Value.bool false)) 4)).alloc (.cells #[.int .i64 gw, .int .i64 gh, .slice (some ⟨w1.heap.size, 0, none⟩) N N] 71)).drew) = w2 at HA2 ⊢
  rw [hp]
  clear HA hr hp hwr hmk HS1 hsz
  have c2 : w2.cell? ⟨p, 2, none⟩ = some (.slice (some ⟨r, 0, none⟩) N N) := HA2.out.cell (.head _) (by simp [mkB_len])
  have hl2 := HA2.out.lt (.head _)
  go_wp2_with fail
  clear c2
  go_loopw [24] (fun i wr => ∃ k : Nat, i = .int .i64 k ∧ k ≤ N ∧ Hid (SH W wr (rgL p r ⟨gw, gh, mkB N (fun i => decide (i < k ∧ (i : Int) ∉ xs))⟩ ++ L))) (fun i _ => N - (intOf i).toNat)
  case atStart => exact ⟨0, rfl, Nat.zero_le _, HA2.out⟩
  case round =>
    obtain ⟨k, rfl, hk, H⟩ := hrel
    by_cases hlt : k < N
    · have c2 : wr.cell? ⟨p, 2, none⟩ = some (.slice (some ⟨r, 0, none⟩) N N) := H.out.cell (.head _) (by simp [mkB_len])
      have cr : wr.cell? ⟨r, k, none⟩ = some (.bool false) := H.out.cell (.tail _ (.head _)) (bools_get (by simp [mkB, hlt]))
      have fz : ∀ o, wr.frozen? ⟨r, o, none⟩ = false := fun o => H.out.free (.tail _ (.head _))
      have hl3 : r < wr.heap.size := H.out.lt (.tail _ (.head _))
      have H2 : ∀ b, b = decide ((k : Int) ∈ xs) → SH W (wr.setCell ⟨r, k, none⟩ (.bool !b)) (rgL p r ⟨gw, gh, mkB N (fun i => decide (i < k + 1 ∧ (i : Int) ∉ xs))⟩ ++ L) := by
        intro b hb
        have h1 := H.out.setAt (i := 1) (off := k) (v := .bool !b) rfl
        have e1 : ((mkB N (fun i => decide (i < k ∧ (i : Int) ∉ xs))).map Value.bool).toArray.setIfInBounds k (.bool !b) = ((mkB N (fun i => decide (i < k + 1 ∧ (i : Int) ∉ xs))).map Value.bool).toArray := by
          rw [List.setIfInBounds_toArray, ← mkB_set (k := k) (b := !b) (f := fun i => decide (i < k ∧ (i : Int) ∉ xs)) (h := fun i => decide (i < k + 1 ∧ (i : Int) ∉ xs)) (by rw [hb]; simp) (fun i hi => by
            have : i < k + 1 ↔ i < k := by omega
            simp [this]), List.map_set]
        simp only at h1
        rw [e1] at h1
        simpa [rgL, rgO, frO, mkB_len] using h1
      have HH2 := Lib.hid H2
      have HX2 := Lib.hid (HX.out.mono (M := rgL p r ⟨gw, gh, mkB N (fun i => decide (i < k ∧ (i : Int) ∉ xs))⟩ ++ L) (fun x h => List.mem_append_right _ h))
      clear HA2 H2
      obtain ⟨B, hB⟩ : ∃ B, decide ((k : Int) ∈ xs) = B := ⟨_, rfl⟩
      have HB := Lib.hid hB
      clear hB
      go_wp2_with fail
      go_still_tail 10, (by kernel_rfl)
      still_call ((num_in_any (H.out.drew) HX2.out hn k).mono (fun e w' h => ⟨h.1, h.2.symm⟩))
      rw [HB.out]
      repeat still_step
      try refine wpStill_nil ?_
      change wpList _ _ _ _ _ (wr.drew)
      have H3 : Hid (SH W ((wr.setCell ⟨r, k, none⟩ (.bool !B)).drew) (rgL p r ⟨gw, gh, mkB N (fun i => decide (i < k + 1 ∧ (i : Int) ∉ xs))⟩ ++ L)) := (HH2.out B HB.out.symm).drew
      clear c2 H HH2 HX2
      go_wp2_with fail
      go_roundw
      case rel => exact ⟨k + 1, by go_num, by omega, H3⟩
      case measure => simp [intOf]; omega
    · have hk2 : k = N := by omega
      have H2 : Hid (SH W wr (rgL p r ⟨gw, gh, mkB N (fun i => !decide ((i : Int) ∈ xs))⟩ ++ L)) := by
        have := H.out
        rw [hk2, show mkB N (fun i => decide (i < N ∧ (i : Int) ∉ xs)) = mkB N (fun i => !decide ((i : Int) ∈ xs)) from mkB_congr (fun i hi => by simp [hi])] at this
        exact this
      clear H hk2 HA2 hl2
      go_wp2_with fail
      go_ret
      exact ⟨p, r, rfl, H2.out⟩
end
end Go.Proofs.YtmabanabdoalaaaDoor
