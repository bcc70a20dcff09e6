/- Package steps: Of, where it makes a ground. -/
import Derived.Test.YtmabanabdoalaaaDoorMb
namespace Go.Proofs.YtmabanabdoalaaaDoor
open Go.RowKit

def mkB (n : Nat) (f : Nat → Bool) : List Bool := (List.range n).map f
theorem mkB_len (n : Nat) (f : Nat → Bool) : (mkB n f).length = n := by simp [mkB]
theorem mkB_set {n k : Nat} {f h : Nat → Bool} {b : Bool} (hb : h k = b) (hf : ∀ i, i ≠ k → h i = f i) : (mkB n f).set k b = mkB n h := by
  apply List.ext_getElem?
  intro i
  by_cases hi : i < n
  · by_cases hk : k = i
    · subst hk
      rw [List.getElem?_set_self (by simpa [mkB] using hi)]
      simp [mkB, hi, hb]
    · rw [List.getElem?_set_ne hk]
      simp [mkB, hi, hf i (Ne.symm hk)]
  · rw [List.getElem?_eq_none (by simp [mkB]; omega), List.getElem?_eq_none (by simp [mkB]; omega)]
theorem mkB_congr {n : Nat} {f h : Nat → Bool} (hf : ∀ i, i < n → f i = h i) : mkB n f = mkB n h := by
  unfold mkB
  exact List.map_congr_left fun i hi => hf i (by simpa using hi)
theorem mkB_rep (n : Nat) (b : Bool) : List.replicate n b = mkB n (fun _ => b) := by simp [mkB, List.map_const']
/-- the ground of a grid on which tiles are blocked -/
def ofG (a : Gr) (xs : List Int) : Gd := ⟨a.w.toNat, a.h.toNat, mkB (a.w.toNat * a.h.toNat) (fun k => !decide ((k : Int) ∈ xs))⟩
theorem ofG_ok {a : Gr} (ha : a.ok = true) (xs : List Int) : GdOk (ofG a xs) := by
  have := gr_ok ha
  exact ⟨by simp [ofG]; omega, by simp [ofG]; omega, by simp [ofG]; omega, by simp [ofG]; omega, by simp [ofG, mkB_len]⟩
theorem zeroB : (Tryd.prog.info? 4).map (fun i => (i.zero, i.size, i.bytes)) = some (some (.bool false), 1, 1) := by kernel_rfl
theorem mul_le_1024 {a b : Nat} (h1 : a ≤ 32) (h2 : b ≤ 32) : a * b ≤ 1024 := by
  have := Nat.mul_le_mul h1 h2
  omega

section
variable {W w : World} {L : List (Nat × Obj)}
set_option maxHeartbeats 1600000 in
set_option maxRecDepth 100000 in
theorem of_ok (hS : SH W w L) {a : Gr} (ha : a.ok = true) {v : Value} {xs : List Int} (hx : Sl encI 1 L v xs) (hn : xs.length ≤ 100000) (hr : ∀ x ∈ xs, 0 ≤ x ∧ x < a.w * a.h) :
    Calls Tryd.prog 27 #[a.val, v] w fun e w' => ∃ p r, e = .returned (.tuple #[.pointer (some ⟨p, 0, none⟩), .nilIface]) ∧ SH W w' (gdL p r (ofG a xs) ++ L) := by
  have hb := gr_ok ha
  have HAl := Lib.hid ha
  obtain ⟨gw, gh, gs, gx, gy⟩ := a
  simp only at hb hr
  obtain ⟨gw, rfl⟩ := Int.eq_ofNat_of_zero_le (show 0 ≤ gw by omega)
  obtain ⟨gh, rfl⟩ := Int.eq_ofNat_of_zero_le (show 0 ≤ gh by omega)
  obtain ⟨b1, b2, b3, b4, _⟩ := hb
  obtain ⟨N, hN⟩ : ∃ N, gw * gh = N := ⟨_, rfl⟩
  have hNi : (gw : Int) * (gh : Int) = (N : Int) := by rw [← hN]; simp
  have hN1 : N ≤ 1024 := by rw [← hN]; exact mul_le_1024 (by omega) (by omega)
  have hwr : IntKind.i64.wrap ((gw : Int) * (gh : Int)) = (N : Int) := by rw [hNi]; simp [IntKind.wrap, IntKind.bits, IntKind.signed]; omega
  have hG : ofG ⟨gw, gh, gs, gx, gy⟩ xs = ⟨gw, gh, mkB N (fun k => !decide ((k : Int) ∈ xs))⟩ := by simp [ofG, hN]
  rw [hG]
  have hr2 : ∀ x ∈ xs, 0 ≤ x ∧ x < N := fun x h => by have := hr x h; rw [hNi] at this; exact this
  have HR := Lib.hid hr2
  have HX := Lib.hid hx
  have hS0 := hS.alloc (.cells #[.int .i64 gw, .int .i64 gh, .int .i64 gs, .int .i64 gx, .int .i64 gy] 23)
  have HS := Lib.hid hS0
  have HN := Lib.hid (And.intro hN (And.intro hNi hwr))
  obtain ⟨i0, hi, hz0, hz1, hz2⟩ := info_parts zeroB
  have HM := Lib.hid (run_make1 (P := Tryd.prog) 69 4 i0 (.bool false) Tryd.underlying69 hi hz0 hz1 rfl (by omega) N (by omega))
  obtain ⟨ao, c, rfl, hc, hsl⟩ := hx
  have HL := Lib.hid hsl
  clear hi hz0 hz1 hz2 hS hS0 hr hr2 hG hN hNi hwr hsl ha
  simp only [Gr.val] at HAl ⊢
  go_enter Tryd.func27, Tryd.ntmps27
  go_wp2_with fail
  refine (tilesRight_ok ⟨gw, gh, gs, gx, gy⟩ HAl.out _).mono ?_
  rintro e w1 ⟨rfl, hb⟩
  have HS1 := Lib.hid (HS.out.below hb)
  have c0 := HS1.out.cell (off := 0) (.head _) rfl
  have c1 := HS1.out.cell (off := 1) (.head _) rfl
  have hl1 := HS1.out.lt (.head _)
  have hwr := HN.out.2.2
  have hmk := HM.out
  clear hb
  go_wp2_with fail
  go_region
  have HA := Lib.hid (HS1.out.alloc2 (.cells (Array.replicate N (Value.bool false)) 4) (.cells #[.int .i64 gw, .int .i64 gh, .slice (some ⟨w1.heap.size, 0, none⟩) N N] 93))
  obtain ⟨p, hp⟩ : ∃ p, w1.heap.size + 1 = p := ⟨_, rfl⟩
  obtain ⟨r, hr⟩ : ∃ r, w1.heap.size = r := ⟨_, rfl⟩
  have HA2 : Hid (SH W (((w1.alloc (.cells (Array.replicate N (Value.bool false)) 4)).alloc (.cells #[.int .i64 gw, .int .i64 gh, .slice (some ⟨w1.heap.size, 0, none⟩) N N] 93)).drew) (gdL p r ⟨gw, gh, mkB N (fun i => decide (i < 0))⟩ ++ L)) := by
    have h1 := HA.out
    rw [hp, hr] at h1
    have h2 := h1.sub (M := (p, gdO ⟨gw, gh, mkB N (fun i => decide (i < 0))⟩ r) :: (r, frO (mkB N (fun i => decide (i < 0)))) :: L) (by
      have e : (Array.replicate N (Value.bool false)) = ((mkB N (fun i => decide (i < 0))).map Value.bool).toArray := by
        rw [show mkB N (fun i => decide (i < 0)) = mkB N (fun _ => false) from mkB_congr (fun i _ => by simp), ← mkB_rep]; simp
      rw [e]
      simp only [gdO, frO, mkB_len]
      exact ((List.sublist_cons_self _ _).cons_cons _).cons_cons _)
    rw [← hr] at h2 ⊢
    exact h2
  generalize (((w1.alloc (.cells (Array.replicate N (Value.bool false)) 4)).alloc (.cells #[.int .i64 gw, .int .i64 gh, .slice (some ⟨w1.heap.size, 0, none⟩) N N] 93)).drew) = w2 at HA2 ⊢
  rw [hp]
  clear HA hr hp c0 c1 hl1 hwr hmk HS1 HM
  have c2 : w2.cell? ⟨p, 2, none⟩ = some (.slice (some ⟨r, 0, none⟩) N N) := HA2.out.cell (.head _) (by simp [mkB_len])
  have hl2 := HA2.out.lt (.head _)
  go_wp2_with fail
  clear c2
  go_loopw [32] (fun i wr => ∃ k : Nat, i = .int .i64 k ∧ k ≤ N ∧ Hid (SH W wr (gdL p r ⟨gw, gh, mkB N (fun i => decide (i < k))⟩ ++ L))) (fun i _ => N - (intOf i).toNat)
  case atStart => exact ⟨0, rfl, Nat.zero_le _, HA2.out⟩
  case round =>
    obtain ⟨k, rfl, hk, H⟩ := hrel
    by_cases hlt : k < N
    · have c2 : wr.cell? ⟨p, 2, none⟩ = some (.slice (some ⟨r, 0, none⟩) N N) := H.out.cell (.head _) (by simp [mkB_len])
      have cr : wr.cell? ⟨r, k, none⟩ = some (.bool false) := H.out.cell (.tail _ (.head _)) (bools_get (by simp [mkB, hlt]))
      have fz : ∀ o, wr.frozen? ⟨r, o, none⟩ = false := fun o => H.out.free (.tail _ (.head _))
      have hl3 : r < wr.heap.size := H.out.lt (.tail _ (.head _))
      have H2 : Hid (SH W (wr.setCell ⟨r, k, none⟩ (.bool true)) (gdL p r ⟨gw, gh, mkB N (fun i => decide (i < k + 1))⟩ ++ L)) := by
        show SH W (wr.setCell ⟨r, k, none⟩ (.bool true)) (gdL p r ⟨gw, gh, mkB N (fun i => decide (i < k + 1))⟩ ++ L)
        have h1 := H.out.setAt (i := 1) (off := k) (v := .bool true) rfl
        have e1 : ((mkB N (fun i => decide (i < k))).map Value.bool).toArray.setIfInBounds k (.bool true) = ((mkB N (fun i => decide (i < k + 1))).map Value.bool).toArray := by
          rw [List.setIfInBounds_toArray, ← mkB_set (k := k) (b := true) (f := fun i => decide (i < k)) (h := fun i => decide (i < k + 1)) (by simp) (fun i hi => by simp; omega), List.map_set]
        simp only at h1
        rw [e1] at h1
        simpa [gdL, gdO, frO, mkB_len] using h1
      clear H HA2
      go_wp2_with fail
      go_roundw
      case rel => exact ⟨k + 1, by go_num, by omega, H2⟩
      case measure => simp [intOf]; omega
    · have hk2 : k = N := by omega
      have H2 : Hid (SH W wr (gdL p r ⟨gw, gh, mkB N (fun i => !decide ((i : Int) ∈ xs.take 0))⟩ ++ L)) := by
        have := H.out
        rw [hk2, show mkB N (fun i => decide (i < N)) = mkB N (fun i => !decide ((i : Int) ∈ xs.take 0)) from mkB_congr (fun i hi => by simp [hi])] at this
        exact this
      clear H hk2 HA2 hl2
      go_wp2_with fail
      clear hlt hk
      obtain ⟨w3, rfl⟩ : ∃ w3, w3 = wr := ⟨_, rfl⟩
      go_loopw [44] (fun i wr => ∃ k : Nat, i = .int .i64 k ∧ k ≤ xs.length ∧ Hid (SH W wr (gdL p r ⟨gw, gh, mkB N (fun i => !decide ((i : Int) ∈ xs.take k))⟩ ++ L))) (fun i _ => xs.length - (intOf i).toNat)
      case atStart => exact ⟨0, rfl, Nat.zero_le _, H2.out⟩
      case round =>
        obtain ⟨k, rfl, hk, H⟩ := hrel
        clear H2
        by_cases hlt : k < xs.length
        · obtain ⟨x, hxk⟩ : ∃ x, xs[k]? = some x := ⟨xs[k], by simp [hlt]⟩
          obtain ⟨hx0, hx1⟩ := HR.out x (List.mem_of_getElem? hxk)
          rcases HL.out with h0 | ⟨b, off, cc, E, fr, rfl, hm, hcell⟩
          · rw [h0] at hlt; simp at hlt
          have hc0 : wr.cell? ⟨b, off + k, none⟩ = some (.int .i64 x) := H.out.cell (List.mem_append_right _ hm) (by simpa using hcell k _ hxk 0 _ rfl)
          obtain ⟨x, rfl⟩ := Int.eq_ofNat_of_zero_le hx0
          have hxN : x < N := by omega
          have Hxk := Lib.hid hxk
          clear hm hcell hxk hx0 hx1
          go_wp2_with fail
          refine (set_ok H.out (t := x) (by simpa [mkB_len] using hxN) false).mono ?_
          rintro e w4 ⟨rfl, hS4⟩
          have H3 : Hid (SH W w4 (gdL p r ⟨gw, gh, mkB N (fun i => !decide ((i : Int) ∈ xs.take (k + 1)))⟩ ++ L)) := by
            have e1 : (mkB N (fun i => !decide ((i : Int) ∈ xs.take k))).set x false = mkB N (fun i => !decide ((i : Int) ∈ xs.take (k + 1))) :=
              mkB_set (by
                rw [List.take_add_one, Hxk.out]; simp) (fun i hi => by
                rw [List.take_add_one, Hxk.out]
                have : ¬ ((i : Int) = (x : Int)) := by omega
                simp [this])
            simp only at hS4
            rw [e1] at hS4
            exact hS4
          clear hS4 H Hxk hc0
          go_wp2_with fail
          go_roundw
          case rel => exact ⟨k + 1, by go_num, by omega, H3⟩
          case measure => simp [intOf]; omega
        · have hk2 : k = xs.length := by omega
          have H3 : Hid (SH W wr (gdL p r ⟨gw, gh, mkB N (fun i => !decide ((i : Int) ∈ xs))⟩ ++ L)) := by
            have := H.out
            rw [hk2, List.take_length] at this
            exact this
          clear hk2 H
          go_wp2_with fail
          go_ret2
          exact ⟨p, r, rfl, H3.out⟩
end
end Go.Proofs.YtmabanabdoalaaaDoor
