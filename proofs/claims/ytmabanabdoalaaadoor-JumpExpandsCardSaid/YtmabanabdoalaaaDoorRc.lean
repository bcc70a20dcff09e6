/- Package paddockref18: Ray, straight, Jump. -/
import Derived.Test.YtmabanabdoalaaaDoorRb
import Derived.Test.YtmabanabdoalaaaDoorMe
namespace Go.Proofs.YtmabanabdoalaaaDoor
open Go.RowKit

theorem ray_fre {g : Gd} {d : Int} : ∀ (n : Nat) (t : Int), ∀ b ∈ g.ray d n t, g.fre b = true := by
  intro n
  induction n with
  | zero => intro t b h; simp [Gd.ray] at h
  | succ n ih =>
    intro t b h
    unfold Gd.ray at h
    by_cases h1 : g.go t d = -1
    · rw [if_pos h1] at h; simp at h
    · rw [if_neg h1] at h
      rcases List.mem_cons.1 h with rfl | h
      · exact go_fre h1
      · exact ih _ _ h
theorem ray_len {g : Gd} {d : Int} : ∀ (n : Nat) (t : Int), (g.ray d n t).length ≤ n := by
  intro n
  induction n with
  | zero => intro t; simp [Gd.ray]
  | succ n ih =>
    intro t
    unfold Gd.ray
    split
    · simp
    · simp; exact ih _
theorem ray_from {g : Gd} {d : Int} {n : Nat} {t : Int} (h : g.ray d n t ≠ []) : g.fre t = true := by
  cases n with
  | zero => simp [Gd.ray] at h
  | succ n =>
    unfold Gd.ray at h
    by_cases h1 : g.go t d = -1
    · rw [if_pos h1] at h; exact absurd rfl h
    · exact (go_from h1).1

/-- a list of numbers in a row of one's own -/
def Ints (W w : World) (L : List (Nat × Obj)) (v : Value) (zs : List Int) : Prop :=
  ∃ r cap sp, v = .slice (some ⟨r, 0, none⟩) zs.length cap ∧ rowOk 1 zs.length (flatI zs) (some (r, cap, sp)) ∧ SH W w (rowL 3 (flatI zs) (some (r, cap, sp)) ++ L)

section
variable {W w : World} {L : List (Nat × Obj)} {p : Nat} {g : Gd}
set_option maxHeartbeats 1600000 in
set_option maxRecDepth 100000 in
theorem ray_any (ok : GdOk g) (hS : SH W w L) (hG : RgIn L p g) (t d : Int) :
    Calls Tryd.prog 34 #[.pointer (some ⟨p, 0, none⟩), .int .i64 t, .int .i64 d] w fun e w' => ∃ v, e = .returned v ∧ Ints W w' L v (g.ray d 40 t) := by
  have HS := Lib.hid hS
  have HG := Lib.hid hG
  clear hS hG
  obtain ⟨i0, hi1, hz0, hz1, hz2⟩ := info_parts infoInt
  have HI := Lib.hid (And.intro hi1 (And.intro hz0 (And.intro hz1 hz2)))
  clear hi1 hz0 hz1 hz2
  go_enter Tryd.func34, Tryd.ntmps34
  go_wp2_with fail
  have HC := Lib.hid (HS.out.alloc (.cells #[] 3))
  go_loopw [1, 7, 8] (fun u s i wr => ∃ (t' : Int) (k r cap : Nat) (sp : List Value), u = .int .i64 t' ∧ s = .slice (some ⟨r, 0, none⟩) k cap ∧ i = .int .i64 k ∧ k ≤ 40 ∧ Hid (∃ ys : List Int, ys.length = k ∧ g.ray d 40 t = ys ++ g.ray d (40 - k) t' ∧ rowOk 1 k (flatI ys) (some (r, cap, sp)) ∧ SH W wr (rowL 3 (flatI ys) (some (r, cap, sp)) ++ L))) (fun _ _ i _ => 40 - (intOf i).toNat)
  case atStart => exact ⟨t, 0, w.heap.size, 0, [], rfl, rfl, rfl, Nat.zero_le _, [], rfl, rfl, ⟨rfl, rfl, Nat.le_refl _, Nat.zero_le _⟩, HC.out⟩
  case round =>
    obtain ⟨t', k, r, cap, sp, rfl, rfl, rfl, hk, H⟩ := hrel
    clear HC
    obtain ⟨ys, hyl, hray, hok, hS⟩ := H.out
    have HQ := Lib.hid (And.intro hyl (And.intro hray (And.intro hok hS)))
    have HG2 := Lib.hid (HG.out.mono (M := rowL 3 (flatI ys) (some (r, cap, sp)) ++ L) (fun x h => List.mem_append_right _ h))
    clear H hyl hray hok hS
    by_cases hlt : k < 40
    · obtain ⟨m, hm⟩ : ∃ m, 40 - k = m + 1 := ⟨39 - k, by omega⟩
      have Hm := Lib.hid hm
      clear hm
      go_wp2_with fail
      refine (go16_any ok HQ.out.2.2.2 HG2.out t' d).mono ?_
      rintro e w2 ⟨rfl, hb⟩
      have HS2 := Lib.hid (HQ.out.2.2.2.below hb)
      clear hb
      by_cases h1 : g.go t' d = -1
      · rw [go16V_none h1]
        have HZ : Hid (g.ray d 40 t = ys) := by
          have := HQ.out.2.1
          rw [Hm.out] at this
          unfold Gd.ray at this
          rw [if_pos h1, List.append_nil] at this
          exact this
        clear h1
        go_wp2_with fail
        go_ret
        refine ⟨_, rfl, ?_⟩
        rw [HZ.out]
        exact ⟨r, cap, sp, by rw [HQ.out.1]; rfl, by rw [HQ.out.1]; exact HQ.out.2.2.1, HS2.out⟩
      · obtain ⟨T, hT⟩ : ∃ T, g.go t' d = T := ⟨_, rfl⟩
        have hge := go_nonneg h1
        rw [hT] at hge
        rw [go16V_some hT (by omega) rfl]
        have HZ : Hid (g.ray d 40 t = (ys ++ [T]) ++ g.ray d m T) := by
          have := HQ.out.2.1
          rw [Hm.out, show g.ray d (m + 1) t' = T :: g.ray d m T by show (if _ then _ else _) = _; rw [if_neg h1, hT]] at this
          rw [List.append_assoc]
          exact this
        have HA := Lib.hid (HS2.out.alloc (.cells #[.int .i64 T] 3))
        clear h1 hT
        go_wp2_with (at_builtin; refine wpList_append_sh (st := some (r, cap, sp)) (L := L) rfl (.tmp 26) (.tmp 28) 24 rfl i0 _ 8 Tryd.underlying24 HI.out.1 HI.out.2.1 HI.out.2.2.1 HI.out.2.2.2 rfl (by decide) HA.out.tail HQ.out.2.2.1 rfl _ 1 1 [.int .i64 T] rfl rfl (newsAt HA.out (by simp)) (by intro u hu; simp at hu; subst hu; rfl) (by decide) (by unfold maxLen; omega) (by omega) ?_; intro g' cap' sp' w4 ok1 hS1; have HGr := Lib.hid (And.intro ok1 hS1); clear ok1 hS1 HA)
        have e1 : flatI ys ++ [.int .i64 T] = flatI (ys ++ [T]) := by rw [flatI_append]; rfl
        have HF : Hid (∃ zs : List Int, zs.length = k + 1 ∧ g.ray d 40 t = zs ++ g.ray d (40 - (k + 1)) T ∧ rowOk 1 (k + 1) (flatI zs) (some (g', cap', sp')) ∧ SH W w4 (rowL 3 (flatI zs) (some (g', cap', sp')) ++ L)) := by
          have h1 := HGr.out
          rw [e1] at h1
          have hm := Hm.out
          exact ⟨ys ++ [T], by simp [HQ.out.1], by rw [show 40 - (k + 1) = m by omega]; exact HZ.out, h1.1, h1.2⟩
        clear e1 HGr HQ HZ HG2 HS2 Hm
        go_wp2_with fail
        go_roundw
        case rel => exact ⟨T, k + 1, g', cap', sp', rfl, rfl, by go_num, by omega, HF⟩
        case measure => simp [intOf]; omega
    · have hk2 : k = 40 := by omega
      have HZ : Hid (g.ray d 40 t = ys) := by
        have := HQ.out.2.1
        rw [hk2, show 40 - 40 = 0 from rfl, show g.ray d 0 t' = [] from rfl, List.append_nil] at this
        exact this
      clear hk2
      go_wp2_with fail
      go_ret
      refine ⟨_, rfl, ?_⟩
      rw [HZ.out]
      exact ⟨r, cap, sp, by rw [HQ.out.1]; rfl, by rw [HQ.out.1]; exact HQ.out.2.2.1, HQ.out.2.2.2⟩

set_option maxHeartbeats 6400000 in
set_option maxRecDepth 100000 in
theorem straight_any (ok : GdOk g) (hS : SH W w L) (hG : RgIn L p g) (t : Int) {d : Nat} (h8 : d < 8) (goal : Int) :
    Calls Tryd.prog 33 #[.pointer (some ⟨p, 0, none⟩), .int .i64 t, .int .i64 d, .int .i64 goal] w fun e w' => e = .returned (.int .i64 (g.strL d goal (g.ray d 40 t) t)) ∧ SH W w' L := by
  have HS := Lib.hid hS
  have HG := Lib.hid hG
  clear hS hG
  obtain ⟨l, hl⟩ : ∃ l, g.ray d 40 t = l := ⟨_, rfl⟩
  have hlf : ∀ b ∈ l, g.fre b = true := by rw [← hl]; exact ray_fre _ _
  have hl0 : l ≠ [] → g.fre t = true := by rw [← hl]; exact ray_from
  have hll : l.length ≤ 40 := by rw [← hl]; exact ray_len _ _
  rw [hl]
  obtain ⟨R, hR⟩ : ∃ R, g.strL d goal l t = R := ⟨_, rfl⟩
  rw [hR]
  have HL := Lib.hid (And.intro hl (And.intro hlf (And.intro hl0 hR)))
  clear hl hlf hl0 hR
  have hdx := dx_bd d
  have hdy := dy_bd d
  have hside : ∀ a b, g.sideR a b d = ((g.is (b % g.w + dyN d) (b / g.w + dxN d) && !g.is (a % g.w + dyN d) (a / g.w + dxN d)) || (g.is (b % g.w - dyN d) (b / g.w - dxN d) && !g.is (a % g.w - dyN d) (a / g.w - dxN d))) := fun _ _ => rfl
  obtain ⟨dx, hdxe⟩ : ∃ x, dxN d = x := ⟨_, rfl⟩
  obtain ⟨dy, hdye⟩ : ∃ x, dyN d = x := ⟨_, rfl⟩
  rw [hdxe, hdye] at hside
  rw [hdxe] at hdx
  rw [hdye] at hdy
  have HW := Lib.hid (And.intro hdxe hdye)
  have HSide := Lib.hid hside
  clear hdxe hdye hside
  go_enter Tryd.func33, Tryd.ntmps33
  go_wp2_with fail
  refine (way_any d h8 _).mono ?_
  rintro e w1 ⟨rfl, rfl⟩
  rw [HW.out.1, HW.out.2]
  go_wp2_with fail
  refine (ray_any ok HS.out HG.out t d).mono ?_
  rintro e w1 ⟨v, rfl, hI⟩
  rw [HL.out.1] at hI
  obtain ⟨r, cap, sp, rfl, hok, hS1⟩ := hI
  have HI := Lib.hid (And.intro hok hS1)
  have HG2 := Lib.hid (HG.out.mono (M := rowL 3 (flatI l) (some (r, cap, sp)) ++ L) (fun x h => List.mem_append_right _ h))
  have hcap : l.length ≤ cap := hok.2.2.1
  clear hok hS1
  go_wp2_with fail
  go_loopw [9, 29] (fun u i wr => ∃ (a : Int) (k : Nat), u = .int .i64 a ∧ i = .int .i64 k ∧ k ≤ l.length ∧ Hid ((k < l.length → g.fre a = true) ∧ g.strL d goal (l.drop k) a = R ∧ SH W wr (rowL 3 (flatI l) (some (r, cap, sp)) ++ L))) (fun _ i _ => l.length - (intOf i).toNat)
  case atStart => exact ⟨t, 0, rfl, rfl, Nat.zero_le _, fun h => HL.out.2.2.1 (by intro e; rw [e] at h; simp at h), HL.out.2.2.2, HI.out.2⟩
  case round =>
    obtain ⟨a, k, rfl, rfl, hk, H⟩ := hrel
    clear HI
    by_cases hlt : k < l.length
    · obtain ⟨b, hbk⟩ : ∃ x, l[k]? = some x := ⟨l[k], by simp [hlt]⟩
      have hc0 : wr.cell? ⟨r, k, none⟩ = some (.int .i64 b) := H.out.2.2.cell (.head _) (flatI_get hbk)
      have hbf := HL.out.2.1 b (List.mem_of_getElem? hbk)
      have haf := H.out.1 hlt
      have hE : R = if b = goal then b else if g.sideR a b d = true then b else g.strL d goal (l.drop (k + 1)) b := by
        have := H.out.2.1
        rw [List.drop_eq_getElem_cons hlt, show l[k] = b from (List.getElem?_eq_some_iff.1 hbk).2] at this
        rw [← this]; rfl
      have hb1 := tile_bd ok hbf
      have ha1 := tile_bd ok haf
      have hbd := fre_bd hbf
      have had := fre_bd haf
      have hw1 := ok.w1
      have hw2 := ok.w2
      have hh2 := ok.h2
      have e1 : b.tmod (g.w : Int) = b % g.w := Int.tmod_eq_emod_of_nonneg hbd.1
      have e2 : b.tdiv (g.w : Int) = b / g.w := Int.tdiv_eq_ediv_of_nonneg hbd.1
      have e3 : a.tmod (g.w : Int) = a % g.w := Int.tmod_eq_emod_of_nonneg had.1
      have e4 : a.tdiv (g.w : Int) = a / g.w := Int.tdiv_eq_ediv_of_nonneg had.1
      have hsd := HSide.out a b
      obtain ⟨x, hx⟩ : ∃ x, b % (g.w : Int) = x := ⟨_, rfl⟩
      obtain ⟨y, hy⟩ : ∃ y, b / (g.w : Int) = y := ⟨_, rfl⟩
      obtain ⟨fx, hfx⟩ : ∃ x, a % (g.w : Int) = x := ⟨_, rfl⟩
      obtain ⟨fy, hfy⟩ : ∃ y, a / (g.w : Int) = y := ⟨_, rfl⟩
      rw [hx, hy] at hb1
      rw [hfx, hfy] at ha1
      rw [hx, hy, hfx, hfy] at hsd
      rw [hx] at e1
      rw [hy] at e2
      rw [hfx] at e3
      rw [hfy] at e4
      have HEq := Lib.hid (And.intro e1 (And.intro e2 (And.intro e3 e4)))
      have HBF := Lib.hid (And.intro hbf hbk)
      clear e1 e2 e3 e4 hx hy hfx hfy hbd had hbf haf hbk
      by_cases hg : b = goal
      · have k1 : (b == goal) = true := by simp [hg]
        have HZ : Hid (R = b) := by rw [hE, if_pos hg]; exact rfl
        clear hE hg hsd
        go_wp2_with fail
        go_ret
        exact ⟨by rw [HZ.out]; rfl, H.out.2.2.rest⟩
      have k1 : (b == goal) = false := by simp [hg]
      rw [if_neg hg] at hE
      obtain ⟨A1, hA1⟩ : ∃ v, g.is (x + dy) (y + dx) = v := ⟨_, rfl⟩
      obtain ⟨A2, hA2⟩ : ∃ v, g.is (fx + dy) (fy + dx) = v := ⟨_, rfl⟩
      obtain ⟨B1, hB1⟩ : ∃ v, g.is (x - dy) (y - dx) = v := ⟨_, rfl⟩
      obtain ⟨B2, hB2⟩ : ∃ v, g.is (fx - dy) (fy - dx) = v := ⟨_, rfl⟩
      rw [hA1, hA2, hB1, hB2] at hsd
      rw [hsd] at hE
      have HIs := Lib.hid (And.intro hA1 (And.intro hA2 (And.intro hB1 hB2)))
      have HE := Lib.hid hE
      clear hE hg hsd hA1 hA2 hB1 hB2
      go_wp2_with fail
      clear hc0
      have c0 : wr.cell? ⟨p, 0, none⟩ = some (.int .i64 g.w) := by obtain ⟨q, hq, _⟩ := HG2.out; exact H.out.2.2.cell hq rfl
      have q1 := HEq.out.1
      have q2 := HEq.out.2.1
      have q5 : ((g.w : Int) == 0) = false := by simp; omega
      go_quiet (fail)
      have HS2 := Lib.hid (H.out.2.2.drewN (n := nq))
      generalize wr.drewN nq = w2 at HS2 ⊢
      clear c0 q1 q2
      have c0 : w2.cell? ⟨p, 0, none⟩ = some (.int .i64 g.w) := by obtain ⟨q, hq, _⟩ := HG2.out; exact HS2.out.cell hq rfl
      have q3 := HEq.out.2.2.1
      have q4 := HEq.out.2.2.2
      go_wp2_with fail
      go_quiet (fail)
      have HS3 := Lib.hid (HS2.out.drewN (n := nq))
      generalize w2.drewN nq = w3 at HS3 ⊢
      clear c0 q3 q4 q5 HS2
      go_wp2_with fail
      refine (is16_any ok HS3.out HG2.out (x + dy) (y + dx) (by omega) (by omega)).mono ?_
      rintro e w4 ⟨rfl, hb⟩
      rw [HIs.out.1]
      have HS4 := Lib.hid (HS3.out.below hb)
      clear hb HS3
      cases A1
      case false =>
        go_wp2_with fail
        refine (is16_any ok HS4.out HG2.out (x - dy) (y - dx) (by omega) (by omega)).mono ?_
        rintro e w5 ⟨rfl, hb⟩
        rw [HIs.out.2.2.1]
        have HS5 := Lib.hid (HS4.out.below hb)
        clear hb HS4
        cases B1
        case false =>
          go_wp2_with fail
          have HF : Hid ((k + 1 < l.length → g.fre b = true) ∧ g.strL d goal (l.drop (k + 1)) b = R ∧ SH W w5 (rowL 3 (flatI l) (some (r, cap, sp)) ++ L)) := ⟨fun _ => HBF.out.1, by rw [HE.out]; exact (if_neg (by simp)).symm, HS5.out⟩
          clear HS5 H HE HIs HBF HEq
          go_roundw
          case rel => exact ⟨b, k + 1, rfl, by go_num, by omega, HF⟩
          case measure => simp [intOf]; omega
        case true =>
          go_wp2_with fail
          refine (is16_any ok HS5.out HG2.out (fx - dy) (fy - dx) (by omega) (by omega)).mono ?_
          rintro e w6 ⟨rfl, hb⟩
          rw [HIs.out.2.2.2]
          have HS6 := Lib.hid (HS5.out.below hb)
          clear hb HS5
          cases B2
          case false =>
            have HZ : Hid (R = b) := by rw [HE.out]; exact if_pos (by simp)
            go_wp2_with fail
            go_ret
            exact ⟨by rw [HZ.out]; rfl, HS6.out.rest⟩
          case true =>
            go_wp2_with fail
            have HF : Hid ((k + 1 < l.length → g.fre b = true) ∧ g.strL d goal (l.drop (k + 1)) b = R ∧ SH W w6 (rowL 3 (flatI l) (some (r, cap, sp)) ++ L)) := ⟨fun _ => HBF.out.1, by rw [HE.out]; exact (if_neg (by simp)).symm, HS6.out⟩
            clear HS6 H HE HIs HBF HEq
            go_roundw
            case rel => exact ⟨b, k + 1, rfl, by go_num, by omega, HF⟩
            case measure => simp [intOf]; omega
      case true =>
        go_wp2_with fail
        refine (is16_any ok HS4.out HG2.out (fx + dy) (fy + dx) (by omega) (by omega)).mono ?_
        rintro e w5 ⟨rfl, hb⟩
        rw [HIs.out.2.1]
        have HS5 := Lib.hid (HS4.out.below hb)
        clear hb HS4
        cases A2
        case false =>
          have HZ : Hid (R = b) := by rw [HE.out]; exact if_pos (by simp)
          go_wp2_with fail
          go_ret
          exact ⟨by rw [HZ.out]; rfl, HS5.out.rest⟩
        case true =>
          go_wp2_with fail
          refine (is16_any ok HS5.out HG2.out (x - dy) (y - dx) (by omega) (by omega)).mono ?_
          rintro e w6 ⟨rfl, hb⟩
          rw [HIs.out.2.2.1]
          have HS6 := Lib.hid (HS5.out.below hb)
          clear hb HS5
          cases B1
          case false =>
            go_wp2_with fail
            have HF : Hid ((k + 1 < l.length → g.fre b = true) ∧ g.strL d goal (l.drop (k + 1)) b = R ∧ SH W w6 (rowL 3 (flatI l) (some (r, cap, sp)) ++ L)) := ⟨fun _ => HBF.out.1, by rw [HE.out]; exact (if_neg (by simp)).symm, HS6.out⟩
            clear HS6 H HE HIs HBF HEq
            go_roundw
            case rel => exact ⟨b, k + 1, rfl, by go_num, by omega, HF⟩
            case measure => simp [intOf]; omega
          case true =>
            go_wp2_with fail
            refine (is16_any ok HS6.out HG2.out (fx - dy) (fy - dx) (by omega) (by omega)).mono ?_
            rintro e w7 ⟨rfl, hb⟩
            rw [HIs.out.2.2.2]
            have HS7 := Lib.hid (HS6.out.below hb)
            clear hb HS6
            cases B2
            case false =>
              have HZ : Hid (R = b) := by rw [HE.out]; exact if_pos (by simp)
              go_wp2_with fail
              go_ret
              exact ⟨by rw [HZ.out]; rfl, HS7.out.rest⟩
            case true =>
              go_wp2_with fail
              have HF : Hid ((k + 1 < l.length → g.fre b = true) ∧ g.strL d goal (l.drop (k + 1)) b = R ∧ SH W w7 (rowL 3 (flatI l) (some (r, cap, sp)) ++ L)) := ⟨fun _ => HBF.out.1, by rw [HE.out]; exact (if_neg (by simp)).symm, HS7.out⟩
              clear HS7 H HE HIs HBF HEq
              go_roundw
              case rel => exact ⟨b, k + 1, rfl, by go_num, by omega, HF⟩
              case measure => simp [intOf]; omega
    · have hk2 : k = l.length := by omega
      have HZ : Hid (R = -1) := by
        have := H.out.2.1
        rw [hk2, List.drop_length] at this
        exact this.symm
      have HS9 := Lib.hid H.out.2.2
      clear hk2 H
      go_wp2_with fail
      go_ret
      exact ⟨by rw [HZ.out]; rfl, HS9.out.rest⟩
end
end Go.Proofs.YtmabanabdoalaaaDoor
