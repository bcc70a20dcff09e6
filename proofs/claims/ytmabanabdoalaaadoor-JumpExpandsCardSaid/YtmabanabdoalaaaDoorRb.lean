/- Package paddockref16: Go. -/
import Derived.Test.YtmabanabdoalaaaDoorRa
namespace Go.Proofs.YtmabanabdoalaaaDoor
open Go.RowKit

def go16V (g : Gd) (t d : Int) : Value := .tuple #[.int .i64 (g.go t d), .int .i64 (if g.go t d = -1 then 0 else costN d)]
theorem go16V_none {g : Gd} {t d : Int} (h : g.go t d = -1) : go16V g t d = .tuple #[.int .i64 (-1), .int .i64 0] := by unfold go16V; rw [if_pos h, h]
theorem go16V_some {g : Gd} {t d v c : Int} (h : g.go t d = v) (hv : v ≠ -1) (hc : costN d = c) : go16V g t d = .tuple #[.int .i64 v, .int .i64 c] := by unfold go16V; rw [if_neg (by rw [h]; exact hv), h, hc]
theorem dxy_even {d : Nat} (h8 : d < 8) (he : d % 2 = 0) : dxN d = 0 ∨ (dxN d ≠ 0 ∧ dyN d = 0) := by
  have : d = 0 ∨ d = 2 ∨ d = 4 ∨ d = 6 := by omega
  rcases this with rfl | rfl | rfl | rfl <;> simp [dxN, dyN]
theorem dxy_odd {d : Nat} (h8 : d < 8) (he : d % 2 = 1) : dxN d ≠ 0 ∧ dyN d ≠ 0 := by
  have : d = 1 ∨ d = 3 ∨ d = 5 ∨ d = 7 := by omega
  rcases this with rfl | rfl | rfl | rfl <;> simp [dxN, dyN]

section
variable {W w : World} {L : List (Nat × Obj)} {p : Nat} {g : Gd}
set_option maxHeartbeats 3200000 in
theorem go16_any (ok : GdOk g) (hS : SH W w L) (hG : RgIn L p g) (t d : Int) :
    Calls Tryd.prog 62 #[.pointer (some ⟨p, 0, none⟩), .int .i64 t, .int .i64 d] w fun e w' => e = .returned (go16V g t d) ∧ Below w.heap.size w w' := by
  have HS := Lib.hid hS
  have HG := Lib.hid hG
  obtain ⟨r, hp, hr⟩ := hG
  have c2 : w.cell? ⟨p, 2, none⟩ = some (.slice (some ⟨r, 0, none⟩) g.fr.length g.fr.length) := hS.cell hp rfl
  have HP := Lib.hid (And.intro hp hr)
  clear hS hp hr
  have nof (h : ¬ (g.fre t = true ∧ 0 ≤ d ∧ d < 8)) : go16V g t d = .tuple #[.int .i64 (-1), .int .i64 0] := go16V_none (by unfold Gd.go; rw [if_neg h])
  cases hh : g.has t with
  | false =>
    have HV := Lib.hid (nof (fun h => by rw [has_fre hh] at h; exact Bool.false_ne_true h.1))
    have HH := Lib.hid hh
    clear hh nof
    go_enter Tryd.func62, Tryd.ntmps62
    go_wp2_with fail
    refine (rhas_any HS.out HG.out t).mono ?_
    rintro e w1 ⟨rfl, rfl⟩
    rw [HH.out]
    go_wp2_with fail
    go_ret2
    exact ⟨by rw [HV.out]; rfl, Below.refl _ _⟩
  | true =>
    have h2 : 0 ≤ t ∧ t < g.fr.length := by simpa [Gd.has] using hh
    obtain ⟨k, rfl⟩ := Int.eq_ofNat_of_zero_le h2.1
    have hk : k < g.fr.length := by omega
    obtain ⟨b, hb⟩ : ∃ b, g.fr[k]? = some b := ⟨g.fr[k], by simp [hk]⟩
    have cr : w.cell? ⟨r, k, none⟩ = some (.bool b) := HS.out.cell HP.out.2 (bools_get hb)
    have hf : g.fre (k : Int) = b := fre_get h2.1 (by simpa using hb)
    have HH := Lib.hid hh
    clear hh hb h2
    cases b
    case false =>
      have HV := Lib.hid (nof (fun h => by rw [hf] at h; exact Bool.false_ne_true h.1))
      clear nof hf
      go_enter Tryd.func62, Tryd.ntmps62
      go_wp2_with fail
      refine (rhas_any HS.out HG.out k).mono ?_
      rintro e w1 ⟨rfl, rfl⟩
      rw [HH.out]
      go_wp2_with fail
      go_ret2
      exact ⟨by rw [HV.out]; rfl, Below.refl _ _⟩
    by_cases d0 : d < 0
    · have HV := Lib.hid (nof (by omega))
      clear nof hf
      go_enter Tryd.func62, Tryd.ntmps62
      go_wp2_with fail
      refine (rhas_any HS.out HG.out k).mono ?_
      rintro e w1 ⟨rfl, rfl⟩
      rw [HH.out]
      go_wp2_with fail
      go_ret2
      exact ⟨by rw [HV.out]; rfl, Below.refl _ _⟩
    by_cases d8 : 7 < d
    · have HV := Lib.hid (nof (by omega))
      clear nof hf
      go_enter Tryd.func62, Tryd.ntmps62
      go_wp2_with fail
      refine (rhas_any HS.out HG.out k).mono ?_
      rintro e w1 ⟨rfl, rfl⟩
      rw [HH.out]
      go_wp2_with fail
      go_ret2
      exact ⟨by rw [HV.out]; rfl, Below.refl _ _⟩
    obtain ⟨d, rfl⟩ := Int.eq_ofNat_of_zero_le (show 0 ≤ d by omega)
    have hd8 : d < 8 := by omega
    clear nof d0
    have hgo := go_is hf hd8
    have hbd := tile_bd ok hf
    have hw2 := ok.w2
    have hh2 := ok.h2
    have hw1 := ok.w1
    have hdx := dx_bd d
    have hdy := dy_bd d
    have e1 : (k : Int).tmod (g.w : Int) = k % g.w := Int.tmod_eq_emod_of_nonneg (by omega)
    have e2 : (k : Int).tdiv (g.w : Int) = k / g.w := Int.tdiv_eq_ediv_of_nonneg (by omega)
    have hk2 : k < 1100 := by
      have := ok.len
      have := mul_le_1024 ok.w2 ok.h2
      omega
    obtain ⟨x, hx⟩ : ∃ x, (k : Int) % (g.w : Int) = x := ⟨_, rfl⟩
    obtain ⟨y, hy⟩ : ∃ y, (k : Int) / (g.w : Int) = y := ⟨_, rfl⟩
    rw [hx, hy] at hgo hbd
    rw [hx] at e1
    rw [hy] at e2
    have hev := fun h => dxy_even (d := d) hd8 h
    have hod := fun h => dxy_odd (d := d) hd8 h
    obtain ⟨dx, hdxe⟩ : ∃ x, dxN d = x := ⟨_, rfl⟩
    obtain ⟨dy, hdye⟩ : ∃ x, dyN d = x := ⟨_, rfl⟩
    rw [hdxe, hdye] at hgo
    rw [hdxe] at hdx hev hod
    rw [hdye] at hdy hev hod
    have hm0 : -32 ≤ dy * (g.w : Int) ∧ dy * (g.w : Int) ≤ 32 := by
      have h3 : dy = -1 ∨ dy = 0 ∨ dy = 1 := by omega
      rcases h3 with rfl | rfl | rfl <;> omega
    obtain ⟨b1, hb1⟩ : ∃ b, g.is (x + dx) (y + dy) = b := ⟨_, rfl⟩
    obtain ⟨b2, hb2⟩ : ∃ b, g.is (x + dx) y = b := ⟨_, rfl⟩
    obtain ⟨b3, hb3⟩ : ∃ b, g.is x (y + dy) = b := ⟨_, rfl⟩
    rw [hb1, hb2, hb3] at hgo
    have HF := Lib.hid hf
    have HX := Lib.hid (And.intro hx hy)
    have HVal : Hid ((y + dy) * (g.w : Int) + (x + dx) = k + dx + dy * g.w) := by
      have h1 := Int.mul_ediv_add_emod k g.w
      rw [hx, hy] at h1
      show (y + dy) * (g.w : Int) + (x + dx) = k + dx + dy * g.w
      rw [Int.add_mul, Int.mul_comm y]
      omega
    have HB := Lib.hid (And.intro hb1 (And.intro hb2 hb3))
    have HGo := Lib.hid hgo
    have HE := Lib.hid (And.intro e1 e2)
    have HW := Lib.hid (And.intro hdxe hdye)
    have Hev := Lib.hid hev
    have Hod := Lib.hid hod
    have Hm0 := Lib.hid hm0
    clear hb1 hb2 hb3 hgo e1 e2 hx hy hdxe hdye hev hod hf hm0
    have d0' : (0 : Int) ≤ (d : Int) := by omega
    have d8' : (d : Int) ≤ 7 := by omega
    go_enter Tryd.func62, Tryd.ntmps62
    go_wp2_with fail
    refine (rhas_any HS.out HG.out k).mono ?_
    rintro e w1 ⟨rfl, rfl⟩
    rw [HH.out]
    go_wp2_with fail
    refine (way_any d hd8 _).mono ?_
    rintro e w1 ⟨rfl, rfl⟩
    rw [HW.out.1, HW.out.2]
    have c0 : w.cell? ⟨p, 0, none⟩ = some (.int .i64 g.w) := HS.out.cell HP.out.1 rfl
    have k1 := HE.out.1
    have k2 := HE.out.2
    have k5 : ((g.w : Int) == 0) = false := by simp; omega
    go_wp2_with fail
    go_quiet (fail)
    have HS2 := Lib.hid (HS.out.drewN (n := nq))
    have HB2 := Lib.hid (below_drewN (k := nq) (Below.refl w.heap.size w))
    generalize w.drewN nq = w2 at HS2 HB2 ⊢
    clear c0 c2 cr k1 k2 k5
    go_wp2_with fail
    refine (is16_any ok HS2.out HG.out (x + dx) (y + dy) (by omega) (by omega)).mono ?_
    rintro e w3 ⟨rfl, hb⟩
    rw [HB.out.1]
    have HS3 := Lib.hid (HS2.out.below hb)
    have HB3 := Lib.hid (HB2.out.trans (hb.mono HB2.out.size))
    clear hb
    cases b1
    case false =>
      have HV : Hid (go16V g k d = .tuple #[.int .i64 (-1), .int .i64 0]) := go16V_none (by rw [HGo.out]; rfl)
      go_wp2_with fail
      go_ret2
      exact ⟨by rw [HV.out]; rfl, HB3.out⟩
    have c0 : w3.cell? ⟨p, 0, none⟩ = some (.int .i64 g.w) := HS3.out.cell HP.out.1 rfl
    have hv0 : g.is (x + dx) (y + dy) = true := HB.out.1
    have m0 : IntKind.i64.wrap (dy * (g.w : Int)) = dy * g.w := wrap_small (by have := Hm0.out; omega) (by have := Hm0.out; omega)
    have m1 : IntKind.i64.wrap ((k : Int) + dx + dy * g.w) = k + dx + dy * g.w := wrap_small (by have := Hm0.out; omega) (by have := Hm0.out; omega)
    by_cases he : d % 2 = 0
    · have HV : Hid (go16V g k d = .tuple #[.int .i64 (k + dx + dy * g.w), .int .i64 10]) := by
        have h1 : g.go k d = k + dx + dy * g.w := by rw [HGo.out, if_pos rfl, if_pos he]
        refine go16V_some h1 ?_ (by unfold costN; rw [if_pos (by omega)])
        intro h2
        rw [h1.symm] at h2
        have := HGo.out
        have h3 := (go_even (g := g) (t := k) (d := d) (by exact HF.out) hd8 he)
        rw [h2] at h3
        have h4 := (to_is g k d).2 (by rw [HX.out.1, HX.out.2, HW.out.1, HW.out.2]; exact hv0)
        exact h4 h3.symm
      rcases Hev.out he with h0 | ⟨h0, h1⟩
      · have k1 : (dx == 0) = true := by simp [h0]
        clear h0 hv0 he
        go_wp2_with fail
        go_ret2
        exact ⟨by rw [HV.out]; rfl, HB3.out⟩
      · have k1 : (dx == 0) = false := by simp [h0]
        have k2 : (dy == 0) = true := by simp [h1]
        clear h0 h1 hv0 he
        go_wp2_with fail
        go_ret2
        exact ⟨by rw [HV.out]; rfl, HB3.out⟩
    · have ho := Hod.out (by omega)
      have k1 : (dx == 0) = false := by simp [ho.1]
      have k2 : (dy == 0) = false := by simp [ho.2]
      clear ho
      go_wp2_with fail
      refine (is16_any ok HS3.out HG.out (x + dx) y (by omega) (by omega)).mono ?_
      rintro e w4 ⟨rfl, hb⟩
      rw [HB.out.2.1]
      have HS4 := Lib.hid (HS3.out.below hb)
      have HB4 := Lib.hid (HB3.out.trans (hb.mono HB3.out.size))
      clear hb c0
      cases b2
      case false =>
        have HV : Hid (go16V g k d = .tuple #[.int .i64 (-1), .int .i64 0]) := go16V_none (by rw [HGo.out]; simp [he])
        clear he hv0
        go_wp2_with fail
        go_ret2
        exact ⟨by rw [HV.out]; rfl, HB4.out⟩
      go_wp2_with fail
      refine (is16_any ok HS4.out HG.out x (y + dy) (by omega) (by omega)).mono ?_
      rintro e w5 ⟨rfl, hb⟩
      rw [HB.out.2.2]
      have HS5 := Lib.hid (HS4.out.below hb)
      have HB5 := Lib.hid (HB4.out.trans (hb.mono HB4.out.size))
      clear hb
      cases b3
      case false =>
        have HV : Hid (go16V g k d = .tuple #[.int .i64 (-1), .int .i64 0]) := go16V_none (by rw [HGo.out]; simp [he])
        clear he hv0
        go_wp2_with fail
        go_ret2
        exact ⟨by rw [HV.out]; rfl, HB5.out⟩
      have HV : Hid (go16V g k d = .tuple #[.int .i64 (k + dx + dy * g.w), .int .i64 14]) := by
        have h1 : g.go k d = k + dx + dy * g.w := by rw [HGo.out]; simp [he]
        refine go16V_some h1 ?_ (by unfold costN; rw [if_neg (by omega)])
        rw [← h1]
        intro h2
        rcases go_or g k d with h3 | h3
        · have h4 := (to_is g k d).2 (by rw [HX.out.1, HX.out.2, HW.out.1, HW.out.2]; exact hv0)
          rcases to_or g k d with h5 | ⟨_, h5, h6⟩
          · exact h4 h5
          · rw [HX.out.1, HX.out.2, HW.out.1, HW.out.2] at h5
            have h7 := HVal.out
            rw [h2] at h1
            omega
        · exact h3.2.2.2.2 (h3.2.2.2.1.symm.trans h2)
      clear he hv0
      have c0 : w5.cell? ⟨p, 0, none⟩ = some (.int .i64 g.w) := HS5.out.cell HP.out.1 rfl
      go_wp2_with fail
      go_ret2
      exact ⟨by rw [HV.out]; rfl, HB5.out⟩
end
end Go.Proofs.YtmabanabdoalaaaDoor
