/- paddockref18.Jump; paddocknum.SameInts. -/
import Derived.Test.YtmabanabdoalaaaDoorSa
namespace Go.Proofs.YtmabanabdoalaaaDoor
open Go.RowKit

theorem sl_of_row {r cap : Nat} {zs : List Int} {sp : List Value} {L : List (Nat × Obj)} (ok : rowOk 1 zs.length (flatI zs) (some (r, cap, sp))) : Sl encI 1 (rowL 3 (flatI zs) (some (r, cap, sp)) ++ L) (.slice (some ⟨r, 0, none⟩) zs.length cap) zs :=
  row_ptr ok rfl rfl

section
variable {W w : World} {L : List (Nat × Obj)} {p : Nat} {g : Gd}
set_option maxHeartbeats 3200000 in
set_option maxRecDepth 100000 in
theorem jump18_any (ok : GdOk g) (hS : SH W w L) (hG : RgIn L p g) (t d goal : Int) :
    Calls Tryd.prog 12 #[.pointer (some ⟨p, 0, none⟩), .int .i64 t, .int .i64 d, .int .i64 goal] w fun e w' => e = .returned (.int .i64 (g.jump t d goal)) ∧ SH W w' L := by
  have HS := Lib.hid hS
  have HG := Lib.hid hG
  obtain ⟨r, hp, hr⟩ := hG
  have c2 : w.cell? ⟨p, 2, none⟩ = some (.slice (some ⟨r, 0, none⟩) g.fr.length g.fr.length) := hS.cell hp rfl
  have HP := Lib.hid (And.intro hp hr)
  clear hS hp hr
  have nof (h : ¬ (g.fre t = true ∧ 0 ≤ d ∧ d < 8)) : g.jump t d goal = -1 := by rw [← jumpR_eq ok]; unfold Gd.jumpR; rw [if_neg h]
  cases hh : g.has t with
  | false =>
    have HV := Lib.hid (nof (fun h => by rw [has_fre hh] at h; exact Bool.false_ne_true h.1))
    have HH := Lib.hid hh
    clear hh nof
    go_enter Tryd.func12, Tryd.ntmps12
    go_wp2_with fail
    refine (rhas_any HS.out HG.out t).mono ?_
    rintro e w1 ⟨rfl, rfl⟩
    rw [HH.out]
    go_wp2_with fail
    go_ret
    exact ⟨by rw [HV.out]; rfl, HS.out⟩
  | true =>
    have h2 : 0 ≤ t ∧ t < g.fr.length := by simpa [Gd.has] using hh
    obtain ⟨k, rfl⟩ := Int.eq_ofNat_of_zero_le h2.1
    have hk : k < g.fr.length := by omega
    obtain ⟨b, hb⟩ : ∃ b, g.fr[k]? = some b := ⟨g.fr[k], by simp [hk]⟩
    have cr : w.cell? ⟨r, k, none⟩ = some (.bool b) := HS.out.cell HP.out.2 (bools_get hb)
    have hf : g.fre (k : Int) = b := fre_get h2.1 (by simpa using hb)
    have HH := Lib.hid hh
    clear hh hb h2
    cases b
    case false =>
      have HV := Lib.hid (nof (fun h => by rw [hf] at h; exact Bool.false_ne_true h.1))
      clear nof hf
      go_enter Tryd.func12, Tryd.ntmps12
      go_wp2_with fail
      refine (rhas_any HS.out HG.out k).mono ?_
      rintro e w1 ⟨rfl, rfl⟩
      rw [HH.out]
      go_wp2_with fail
      go_ret
      exact ⟨by rw [HV.out]; rfl, HS.out⟩
    by_cases d0 : d < 0
    · have HV := Lib.hid (nof (by omega))
      clear nof hf
      go_enter Tryd.func12, Tryd.ntmps12
      go_wp2_with fail
      refine (rhas_any HS.out HG.out k).mono ?_
      rintro e w1 ⟨rfl, rfl⟩
      rw [HH.out]
      go_wp2_with fail
      go_ret
      exact ⟨by rw [HV.out]; rfl, HS.out⟩
    by_cases d8 : 7 < d
    · have HV := Lib.hid (nof (by omega))
      clear nof hf
      go_enter Tryd.func12, Tryd.ntmps12
      go_wp2_with fail
      refine (rhas_any HS.out HG.out k).mono ?_
      rintro e w1 ⟨rfl, rfl⟩
      rw [HH.out]
      go_wp2_with fail
      go_ret
      exact ⟨by rw [HV.out]; rfl, HS.out⟩
    obtain ⟨d, rfl⟩ := Int.eq_ofNat_of_zero_le (show 0 ≤ d by omega)
    have hd8 : d < 8 := by omega
    have hJ : g.jump k d goal = if (d : Int) % 2 = 0 then g.strL d goal (g.ray d 40 k) k else g.diaL d goal (g.ray d 40 k) := by
      rw [← jumpR_eq ok]; unfold Gd.jumpR; rw [if_pos ⟨hf, by omega, by omega⟩, Int.toNat_natCast]
    obtain ⟨R, hR⟩ : ∃ R, g.jump k d goal = R := ⟨_, rfl⟩
    rw [hR] at hJ ⊢
    clear nof hR hf
    by_cases he : (d : Int) % 2 = 0
    · rw [if_pos he] at hJ
      have HV := Lib.hid hJ
      have k1 : ((d : Int) % 2 == 0) = true := by simp [he]
      clear hJ he
      go_enter Tryd.func12, Tryd.ntmps12
      go_wp2_with fail
      refine (rhas_any HS.out HG.out k).mono ?_
      rintro e w1 ⟨rfl, rfl⟩
      rw [HH.out]
      go_wp2_with fail
      refine (straight_any ok HS.out HG.out k hd8 goal).mono ?_
      rintro e w1 ⟨rfl, hS1⟩
      have HS1 := Lib.hid hS1
      clear hS1
      go_wp2_with fail
      go_ret
      exact ⟨by rw [HV.out]; rfl, HS1.out⟩
    · rw [if_neg he] at hJ
      have HV := Lib.hid hJ.symm
      have k1 : ((d : Int) % 2 == 0) = false := by simp [he]
      have hd1 : 1 ≤ d := by omega
      have HM := Lib.hid (And.intro (show (d : Int) - 1 = ((d - 1 : Nat) : Int) by omega) (show ((d : Int) + 1) % 8 = (((d + 1) % 8 : Nat) : Int) by omega))
      clear hJ he
      go_enter Tryd.func12, Tryd.ntmps12
      go_wp2_with fail
      refine (rhas_any HS.out HG.out k).mono ?_
      rintro e w1 ⟨rfl, rfl⟩
      rw [HH.out]
      go_wp2_with fail
      refine (ray_any ok HS.out HG.out k d).mono ?_
      rintro e w1 ⟨v, rfl, hI⟩
      obtain ⟨l, hl⟩ : ∃ l, g.ray d 40 k = l := ⟨_, rfl⟩
      rw [hl] at hI HV
      have hll : l.length ≤ 40 := by rw [← hl]; exact ray_len _ _
      clear hl c2 cr
      obtain ⟨r2, cap, sp, rfl, hok, hS1⟩ := hI
      have HI := Lib.hid (And.intro hok hS1)
      have HG2 := Lib.hid (HG.out.mono (M := rowL 3 (flatI l) (some (r2, cap, sp)) ++ L) (fun x h => List.mem_append_right _ h))
      have hcap : l.length ≤ cap := hok.2.2.1
      clear hok hS1
      go_wp2_with fail
      clear hk
      go_loopw [46] (fun i wr => ∃ (k : Nat), i = .int .i64 k ∧ k ≤ l.length ∧ Hid (g.diaL d goal (l.drop k) = R ∧ SH W wr (rowL 3 (flatI l) (some (r2, cap, sp)) ++ L))) (fun i _ => l.length - (intOf i).toNat)
      case atStart => exact ⟨0, rfl, Nat.zero_le _, HV.out, HI.out.2⟩
      case round =>
        obtain ⟨j, rfl, hk, H⟩ := hrel
        clear HI HV
        by_cases hlt : j < l.length
        · obtain ⟨b, hbk⟩ : ∃ x, l[j]? = some x := ⟨l[j], by simp [hlt]⟩
          have hc0 : wr.cell? ⟨r2, j, none⟩ = some (.int .i64 b) := H.out.2.cell (.head _) (flatI_get hbk)
          have hE : R = if b = goal ∨ 0 ≤ g.strL (d - 1) goal (g.ray (d - 1 : Nat) 40 b) b ∨ 0 ≤ g.strL ((d + 1) % 8) goal (g.ray ((d + 1) % 8 : Nat) 40 b) b then b else g.diaL d goal (l.drop (j + 1)) := by
            have := H.out.1
            rw [List.drop_eq_getElem_cons hlt, show l[j] = b from (List.getElem?_eq_some_iff.1 hbk).2] at this
            rw [← this]; rfl
          obtain ⟨s1, hs1⟩ : ∃ s, g.strL (d - 1) goal (g.ray (d - 1 : Nat) 40 b) b = s := ⟨_, rfl⟩
          obtain ⟨s2, hs2⟩ : ∃ s, g.strL ((d + 1) % 8) goal (g.ray ((d + 1) % 8 : Nat) 40 b) b = s := ⟨_, rfl⟩
          rw [hs1, hs2] at hE
          have HSt := Lib.hid (And.intro hs1 hs2)
          clear hs1 hs2 hbk
          by_cases hg : b = goal
          · have k3 : (b == goal) = true := by simp [hg]
            rw [if_pos (.inl hg)] at hE
            have HZ := Lib.hid hE
            clear hE hg
            go_wp2_with fail
            go_ret
            exact ⟨by rw [HZ.out]; rfl, H.out.2.rest⟩
          have k3 : (b == goal) = false := by simp [hg]
          have HE := Lib.hid hE
          have Hg := Lib.hid hg
          clear hE hg
          go_wp2_with fail
          rw [HM.out.1]
          refine (straight_any ok H.out.2 HG2.out b (d := d - 1) (by omega) goal).mono ?_
          rintro e w2 ⟨rfl, hS2⟩
          rw [HSt.out.1]
          have HS2 := Lib.hid hS2
          clear hS2 hc0
          by_cases h1 : 0 ≤ s1
          · have HZ : Hid (R = b) := by have := HE.out; rw [if_pos (.inr (.inl h1))] at this; exact this
            clear HE
            go_wp2_with fail
            go_ret
            exact ⟨by rw [HZ.out]; rfl, HS2.out.rest⟩
          have h1' : decide (0 ≤ s1) = false := decide_eq_false h1
          go_wp2_with fail
          rw [HM.out.2]
          refine (straight_any ok HS2.out HG2.out b (d := (d + 1) % 8) (by omega) goal).mono ?_
          rintro e w3 ⟨rfl, hS3⟩
          rw [HSt.out.2]
          have HS3 := Lib.hid hS3
          clear hS3
          by_cases h2 : 0 ≤ s2
          · have HZ : Hid (R = b) := by have := HE.out; rw [if_pos (.inr (.inr h2))] at this; exact this
            clear HE
            go_wp2_with fail
            go_ret
            exact ⟨by rw [HZ.out]; rfl, HS3.out.rest⟩
          have h2' : decide (0 ≤ s2) = false := decide_eq_false h2
          have HF : Hid (g.diaL d goal (l.drop (j + 1)) = R ∧ SH W w3 (rowL 3 (flatI l) (some (r2, cap, sp)) ++ L)) := by
            have := HE.out
            rw [if_neg (by rintro (h | h | h); exact Hg.out h; all_goals omega)] at this
            exact ⟨this.symm, HS3.out⟩
          clear HE HS2 HS3 H
          go_wp2_with fail
          go_roundw
          case rel => exact ⟨j + 1, by go_num, by omega, HF⟩
          case measure => simp [intOf]; omega
        · have hk2 : j = l.length := by omega
          have HZ : Hid (R = -1) := by
            have := H.out.1
            rw [hk2, List.drop_length] at this
            exact this.symm
          have HS9 := Lib.hid H.out.2
          clear hk2 H
          go_wp2_with fail
          go_ret
          exact ⟨by rw [HZ.out]; rfl, HS9.out.rest⟩

set_option maxHeartbeats 1600000 in
theorem sameInts_any (hS : SH W w L) {v u : Value} {xs ys : List Int} (hx : Sl encI 1 L v xs) (hy : Sl encI 1 L u ys) (hn : xs.length ≤ 100000) (_ : ys.length ≤ 100000) :
    Calls Tryd.prog 17 #[v, u] w fun e w' => e = .returned (.bool (decide (xs = ys))) ∧ SH W w' L := by
  obtain ⟨R, hR⟩ : ∃ R, decide (xs = ys) = R := ⟨_, rfl⟩
  rw [hR]
  have HR := Lib.hid hR
  have HS := Lib.hid hS
  obtain ⟨a, c, rfl, hc, hra⟩ := hx
  obtain ⟨a', c', rfl, hc', hrb⟩ := hy
  have HA := Lib.hid (And.intro hra hrb)
  clear hR hS hra hrb
  by_cases hlen : xs.length = ys.length
  case neg =>
    have k1 : ((xs.length : Int) == (ys.length : Int)) = false := by simp; omega
    have k2 : ((xs.length : Int) != (ys.length : Int)) = true := by simp; omega
    have k3 : (xs.length == ys.length) = false := by simp; omega
    have k4 : (xs.length != ys.length) = true := by simp; omega
    have HZ : Hid (R = false) := by rw [← HR.out]; exact decide_eq_false (fun e => hlen (by rw [e]))
    clear hlen
    go_enter Tryd.func17, Tryd.ntmps17
    go_wp2_with fail
    go_ret
    exact ⟨by rw [HZ.out]; rfl, HS.out⟩
  have k2 : ((xs.length : Int) != (ys.length : Int)) = false := by simp; omega
  have k4 : (xs.length != ys.length) = false := by simp; omega
  have Hlen := Lib.hid hlen
  clear hlen
  go_enter Tryd.func17, Tryd.ntmps17
  go_wp2_with fail
  go_loopw [13] (fun i wr => ∃ (k : Nat), i = .int .i64 k ∧ k ≤ xs.length ∧ Hid (xs.take k = ys.take k ∧ SH W wr L)) (fun i _ => xs.length - (intOf i).toNat)
  case atStart => exact ⟨0, rfl, Nat.zero_le _, rfl, HS.out⟩
  case round =>
    obtain ⟨k, rfl, hk, H⟩ := hrel
    by_cases hlt : k < xs.length
    · have hlt2 : k < ys.length := by have := Hlen.out; omega
      obtain ⟨x, hxk⟩ : ∃ x, xs[k]? = some x := ⟨xs[k], by simp [hlt]⟩
      obtain ⟨y, hyk⟩ : ∃ x, ys[k]? = some x := ⟨ys[k], by simp [hlt2]⟩
      rcases HA.out.1 with h0 | ⟨b, off, cc, E, fr, rfl, hm', hcell⟩
      · rw [h0] at hlt; simp at hlt
      rcases HA.out.2 with h0 | ⟨b', off', cc', E', fr', rfl, hm2, hcell2⟩
      · rw [h0] at hlt2; simp at hlt2
      have hc0 : wr.cell? ⟨b, off + k, none⟩ = some (.int .i64 x) := H.out.2.cell hm' (by simpa using hcell k _ hxk 0 _ rfl)
      have hc1 : wr.cell? ⟨b', off' + k, none⟩ = some (.int .i64 y) := H.out.2.cell hm2 (by simpa using hcell2 k _ hyk 0 _ rfl)
      have hi1 : (k : Int) < (xs.length : Int) := by omega
      have hi2 : (k : Int) < (ys.length : Int) := by omega
      have HXY := Lib.hid (And.intro hxk hyk)
      clear hm' hcell hm2 hcell2 hxk hyk
      by_cases hxy : x = y
      · have k5 : (x != y) = false := by simp [hxy]
        have HF : Hid (xs.take (k + 1) = ys.take (k + 1) ∧ SH W wr L) := by
          refine ⟨?_, H.out.2⟩
          rw [List.take_add_one, List.take_add_one, HXY.out.1, HXY.out.2, H.out.1, hxy]
        clear hxy
        go_wp2_with fail
        go_quiet (fail)
        have HF2 := Lib.hid (And.intro HF.out.1 (HF.out.2.drewN (n := nq)))
        generalize wr.drewN nq = w2 at HF2 ⊢
        clear hc0 hc1 HF H
        go_wp2_with fail
        go_roundw
        case rel => exact ⟨k + 1, by go_num, by omega, HF2⟩
        case measure => simp [intOf]; omega
      · have k5 : (x != y) = true := by simp [hxy]
        have HZ : Hid (R = false) := by
          rw [← HR.out]
          refine decide_eq_false (fun e => hxy ?_)
          have h1 := HXY.out.1
          rw [e, HXY.out.2] at h1
          exact (Option.some.inj h1).symm
        clear hxy
        go_wp2_with fail
        go_quiet (fail)
        have HF2 := Lib.hid (H.out.2.drewN (n := nq))
        generalize wr.drewN nq = w2 at HF2 ⊢
        clear hc0 hc1 H
        go_wp2_with fail
        go_ret
        exact ⟨by rw [HZ.out]; rfl, HF2.out⟩
    · have hk2 : k = xs.length := by omega
      have HZ : Hid (R = true) := by
        rw [← HR.out]
        have h1 := H.out.1
        have h2 := Hlen.out
        rw [hk2, List.take_length, h2, List.take_length] at h1
        exact decide_eq_true h1
      have HS9 := Lib.hid H.out.2
      clear hk2 H
      go_wp2_with fail
      go_ret
      exact ⟨by rw [HZ.out]; rfl, HS9.out⟩
end
end Go.Proofs.YtmabanabdoalaaaDoor
