/- Package jump: what run does. -/
import Derived.Test.YtmabanabdoalaaaDoorSc
namespace Go.Proofs.YtmabanabdoalaaaDoor
open Go.RowKit

/-- jumps in these directions -/
def dirsF (g : Gd) (goal v : Int) : List Int → Sr → Option Sr
  | [], s => some s
  | d :: ds, s => if g.jump v d goal = -1 then dirsF g goal v ds s
    else if 0 ≤ s.cs.getD v.toNat 0 + g.guess v (g.jump v d goal) ∧ s.cs.getD v.toNat 0 + g.guess v (g.jump v d goal) ≤ 1000000000 ∧ s.hp.length < 16384 then
      dirsF g goal v ds (reachF g goal s (g.jump v d goal) v (s.cs.getD v.toNat 0 + g.guess v (g.jump v d goal))) else none
def dirs8 : List Int := [0, 1, 2, 3, 4, 5, 6, 7]
def runF (g : Gd) (goal : Int) : Nat → Sr → Option Sr
  | 0, _ => none
  | n + 1, s => match s.hp with
    | [] => some s
    | x :: es => if x.2 = goal then some ⟨popL x es, s.cs, s.fs⟩
      else if g.fre x.2 = true then (dirsF g goal x.2 dirs8 ⟨popL x es, s.cs, s.fs⟩).bind (runF g goal n) else none
/-- the lists are of the ground's length -/
structure SrOk (g : Gd) (n : Nat) (s : Sr) : Prop where
  len : n = g.fr.length
  cs : s.cs.length = n
  fs : s.fs.length = n
  hp : s.hp.length ≤ 16384
theorem reachF_ok {g : Gd} {goal : Int} {n : Nat} {s : Sr} {t fr c : Int} (h : SrOk g n s) (hh : s.hp.length < 16384) : SrOk g n (reachF g goal s t fr c) := by
  unfold reachF
  split
  · exact h
  · refine ⟨h.len, by simp [h.cs], by simp [h.fs], ?_⟩
    simp only [pushL_len]
    omega

theorem Own.drewN {P : List (Nat × Obj) → Prop} {W w : World} {L : List (Nat × Obj)} {k : Nat} (h : Own P W w L) : Own P W (w.drewN k) L := h.imp fun _ h => ⟨h.1, h.2.drewN⟩
theorem jump_t {W w : World} {L : List (Nat × Obj)} {p : Nat} {g : Gd} (ok : GdOk g) (hS : SH W w L) (hG : GdIn L p g) {t d goal J : Int} {B : Bool} (hJ : g.jump t d goal = J) (hB : decide (J ≠ -1) = B) :
    Calls Tryd.prog 11 #[.pointer (some ⟨p, 0, none⟩), .int .i64 t, .int .i64 d, .int .i64 goal] w fun e w' => e = .returned (.tuple #[.int .i64 J, .bool B]) ∧ Below w.heap.size w w' := by
  have := jump_any ok hS hG t d goal
  unfold jumpV at this
  rw [hJ, hB] at this
  exact this
theorem guess_t {W w : World} {L : List (Nat × Obj)} {p : Nat} {g : Gd} (ok : GdOk g) (hS : SH W w L) (hG : GdIn L p g) {a b G : Int} (ha : g.fre a = true) (hb : g.fre b = true) (hg : g.guess a b = G) :
    Calls Tryd.prog 67 #[.pointer (some ⟨p, 0, none⟩), .int .i64 a, .int .i64 b] w fun e w' => e = .returned (.tuple #[.int .i64 G, .nilIface]) ∧ Below w.heap.size w w' := by
  have := guess_ok ok hS hG ha hb
  rw [hg] at this
  exact this

section
variable {W w : World} {L : List (Nat × Obj)} {i : Ids} {g : Gd} {goal : Int} {n : Nat}
set_option maxHeartbeats 6400000 in
set_option maxRecDepth 100000 in
theorem run_ok (ok : GdOk g) {s s' : Sr} {N : Nat} (hH : SrAt W w i goal n s L) (hG : GdIn L i.p g) (ho : SrOk g n s) (hg : g.fre goal = true) (hrun : runF g goal N s = some s') :
    Calls Tryd.prog 44 #[.pointer (some ⟨i.q, 0, none⟩)] w fun e w' => e = .returned .nilIface ∧ SrAt W w' i goal n s' L := by
  have HH := Lib.hid (And.intro hH (And.intro ho hrun))
  have HG := Lib.hid hG
  have HGo := Lib.hid hg
  clear hH hG ho hrun hg
  go_enter Tryd.func44, Tryd.ntmps44
  go_wp2_with fail
  go_loopg [11] N (fun gm _ wr => ∃ s, Hid (SrAt W wr i goal n s L ∧ SrOk g n s ∧ runF g goal gm s = some s'))
  case atStart => exact ⟨s, HH.out⟩
  case round =>
    obtain ⟨s, H⟩ := hrel
    clear HH
    obtain ⟨m, hm⟩ : ∃ m, gk = m + 1 := by
      cases gk with
      | zero => have := H.out.2.2; cases this
      | succ m => exact ⟨m, rfl⟩
    have hR := H.out.2.2
    rw [hm] at hR
    have Hm := Lib.hid hm
    clear hm
    have q1 : wr.cell? ⟨i.q, 1, none⟩ = some (.pointer (some ⟨i.hp, 0, none⟩)) := H.out.1.SH.cell (.head _) rfl
    go_wp2_with fail
    refine (heapLen_any H.out.1).mono ?_
    rintro e w1 ⟨rfl, rfl⟩
    cases hhp : s.hp with
    | nil =>
      have HZ : Hid (s = s') := by
        unfold runF at hR
        rw [hhp] at hR
        exact Option.some.inj hR
      clear hR hhp
      go_wp2_with fail
      go_ret
      refine ⟨rfl, ?_⟩
      rw [← HZ.out]
      exact H.out.1
    | cons x es =>
      obtain ⟨k, v⟩ := x
      have hH0 : HpAt W wr i.hp ((k, v) :: es) (srL i goal n s.cs s.fs ++ L) := by rw [← hhp]; exact H.out.1
      have HH0 := Lib.hid hH0
      have hlen : es.length ≤ 16383 := by
        have := H.out.2.1.hp
        rw [hhp] at this
        simp at this; omega
      have hlen0 : 0 < ((k, v) :: es).length := by simp
      have hR2 : (if v = goal then some (⟨popL (k, v) es, s.cs, s.fs⟩ : Sr) else if g.fre v = true then (dirsF g goal v dirs8 ⟨popL (k, v) es, s.cs, s.fs⟩).bind (runF g goal m) else none) = some s' := by
        unfold runF at hR
        rw [hhp] at hR
        exact hR
      have HR := Lib.hid hR2
      have HL := Lib.hid (And.intro H.out.2.1.len (And.intro H.out.2.1.cs H.out.2.1.fs))
      clear hR hR2 hH0 hhp hlen0
      simp only [List.length_cons]
      have hl1 : (0 : Int) < ((es.length + 1 : Nat) : Int) := by omega
      clear H
      go_wp2_with fail
      refine (pop_some HH0.out (by omega)).mono ?_
      rintro e w2 ⟨rfl, hH2⟩
      clear q1 hl1
      have HH2 := Lib.hid (hH2.alloc (.cells #[.int .i64 k, .int .i64 v] 110))
      clear hH2
      go_wp2_with fail
      have q2 := HH2.out.SH.cell (b := i.q) (off := 2) (c := #[.pointer (some ⟨i.p, 0, none⟩), .pointer (some ⟨i.hp, 0, none⟩), .int .i64 goal, .slice (some ⟨i.rc, 0, none⟩) n n, .slice (some ⟨i.rf, 0, none⟩) n n]) (E := 83) (fr := (0, 0)) (.tail _ (.head _)) rfl
      by_cases hvg : v = goal
      · have k1 : (v == goal) = true := by simp [hvg]
        have HZ : Hid ((⟨popL (k, v) es, s.cs, s.fs⟩ : Sr) = s') := by
          have := HR.out
          rw [if_pos hvg] at this
          exact Option.some.inj this
        clear hvg HR
        go_quiet (fail)
        have HF := Lib.hid ((HH2.out.tail).drewN (k := nq))
        go_wp2_with fail
        go_ret
        refine ⟨rfl, ?_⟩
        rw [← HZ.out]
        exact HF.out
      have k1 : (v == goal) = false := by simp [hvg]
      have hR := HR.out
      rw [if_neg hvg] at hR
      have hfv : g.fre v = true := by
        cases hf : g.fre v with
        | true => rfl
        | false => rw [hf, if_neg (by simp)] at hR; cases hR
      rw [if_pos hfv] at hR
      obtain ⟨s2, hs2, hs3⟩ : ∃ s2, dirsF g goal v dirs8 ⟨popL (k, v) es, s.cs, s.fs⟩ = some s2 ∧ runF g goal m s2 = some s' := by
        cases hd : dirsF g goal v dirs8 ⟨popL (k, v) es, s.cs, s.fs⟩ with
        | none => rw [hd] at hR; cases hR
        | some s2 => rw [hd] at hR; exact ⟨s2, rfl, hR⟩
      have HD := Lib.hid (And.intro hs2 hs3)
      have HFv := Lib.hid hfv
      clear hvg hR hs2 hs3 hfv HR
      go_quiet (fail)
      have HE0 : Hid (SrAt W ((w2.alloc (.cells #[.int .i64 k, .int .i64 v] 110)).drewN nq) i goal n ⟨popL (k, v) es, s.cs, s.fs⟩ ((w2.heap.size, .cells #[.int .i64 k, .int .i64 v] 110) :: L)) :=
        (HH2.out.perm (List.perm_middle.symm)).drewN
      generalize (w2.alloc (.cells #[.int .i64 k, .int .i64 v] 110)).drewN nq = w3 at HE0 ⊢
      have HG2 := Lib.hid (HG.out.mono (M := (w2.heap.size, .cells #[.int .i64 k, .int .i64 v] 110) :: L) (fun x h => .tail _ h))
      have HO0 : Hid (SrOk g n ⟨popL (k, v) es, s.cs, s.fs⟩) := ⟨HL.out.1, HL.out.2.1, HL.out.2.2, by simp only [popL_len]; omega⟩
      obtain ⟨B, hB⟩ : ∃ B, w2.heap.size = B := ⟨_, rfl⟩
      rw [hB] at HE0 HG2 ⊢
      clear q2 HH2 HH0 HL k1 hB
      go_wp2_with fail
      go_loopw [37] (fun u wr => ∃ (j : Nat) (s1 : Sr), u = .int .i64 j ∧ j ≤ 8 ∧ Hid (SrAt W wr i goal n s1 ((B, .cells #[.int .i64 k, .int .i64 v] 110) :: L) ∧ SrOk g n s1 ∧ dirsF g goal v (dirs8.drop j) s1 = some s2)) (fun u _ => 8 - (intOf u).toNat)
      case atStart => exact ⟨0, _, rfl, Nat.zero_le _, HE0.out, HO0.out, HD.out.1⟩
      case round =>
        obtain ⟨j, s1, rfl, hj, H⟩ := hrel
        clear HE0 HO0
        by_cases hlt : j < 8
        · have hdr : dirs8.drop j = (j : Int) :: dirs8.drop (j + 1) := by
            match j, hlt with
            | 0, _ | 1, _ | 2, _ | 3, _ | 4, _ | 5, _ | 6, _ | 7, _ => rfl
          have hF := H.out.2.2
          rw [hdr] at hF
          have HF := Lib.hid hF
          obtain ⟨J, hJ⟩ : ∃ J, g.jump v j goal = J := ⟨_, rfl⟩
          have HJ := Lib.hid hJ
          obtain ⟨M, hM, hSM⟩ := H.out.1
          have HM := Lib.hid (And.intro hM hSM)
          have HG3 := Lib.hid (HG2.out.mono (M := M ++ (srL i goal n s1.cs s1.fs ++ ((B, .cells #[.int .i64 k, .int .i64 v] 110) :: L))) (fun x h => List.mem_append_right _ (List.mem_append_right _ h)))
          have m0 : (i.q, srO i goal n) ∈ M ++ (srL i goal n s1.cs s1.fs ++ ((B, .cells #[.int .i64 k, .int .i64 v] 110) :: L)) := List.mem_append_right _ (.head _)
          have m1 : (B, Obj.cells #[.int .i64 k, .int .i64 v] 110 (0, 0)) ∈ M ++ (srL i goal n s1.cs s1.fs ++ ((B, .cells #[.int .i64 k, .int .i64 v] 110) :: L)) := List.mem_append_right _ (List.mem_append_right _ (.head _))
          have m2 : (i.rc, inO s1.cs) ∈ M ++ (srL i goal n s1.cs s1.fs ++ ((B, .cells #[.int .i64 k, .int .i64 v] 110) :: L)) := List.mem_append_right _ (.tail _ (.head _))
          have q0 : ∀ x : SHW W (M ++ (srL i goal n s1.cs s1.fs ++ ((B, .cells #[.int .i64 k, .int .i64 v] 110) :: L))), x.w.cell? ⟨i.q, 0, none⟩ = some (.pointer (some ⟨i.p, 0, none⟩)) := fun x => x.ok.cell m0 rfl
          have q2 : ∀ x : SHW W (M ++ (srL i goal n s1.cs s1.fs ++ ((B, .cells #[.int .i64 k, .int .i64 v] 110) :: L))), x.w.cell? ⟨i.q, 2, none⟩ = some (.int .i64 goal) := fun x => x.ok.cell m0 rfl
          have b1 : ∀ x : SHW W (M ++ (srL i goal n s1.cs s1.fs ++ ((B, .cells #[.int .i64 k, .int .i64 v] 110) :: L))), x.w.cell? ⟨B, 1, none⟩ = some (.int .i64 v) := fun x => x.ok.cell m1 rfl
          have hne : Nonempty (SHW W (M ++ (srL i goal n s1.cs s1.fs ++ ((B, .cells #[.int .i64 k, .int .i64 v] 110) :: L)))) := ⟨⟨_, hSM⟩⟩
          have Hm0 := Lib.hid (And.intro m0 (And.intro m1 m2))
          have HO := Lib.hid H.out.2.1
          clear hM hSM m0 m1 m2 hF hdr H
          by_cases h1 : J = -1
          · have hB : decide (J ≠ -1) = false := by simp [h1]
            have HB := Lib.hid hB
            have HF2 : Hid (dirsF g goal v (dirs8.drop (j + 1)) s1 = some s2) := by
              have := HF.out
              unfold dirsF at this
              rw [if_pos (by rw [HJ.out]; exact h1)] at this
              exact this
            clear hB hJ h1 HF
            go_wp2_with fail
            refine wp_region_sh (by kernel_rfl) (by kernel_rfl) HM.out.2 ?_
            repeat (go_big_quiet_step (refine calls_sh (jump_t ok (SHW.ok _) HG3.out HJ.out HB.out)))
            refine wpQuiet_nil ?_
            rintro ⟨w4, hS4⟩
            dsimp only
            have HX : Hid (SrAt W w4 i goal n s1 ((B, .cells #[.int .i64 k, .int .i64 v] 110) :: L) ∧ SrOk g n s1 ∧ dirsF g goal v (dirs8.drop (j + 1)) s1 = some s2) := ⟨⟨M, HM.out.1, hS4⟩, HO.out, HF2.out⟩
            clear hS4 q0 q2 b1 hne HM HO HF2
            go_wp2_with fail
            go_roundw
            case rel => exact ⟨j + 1, s1, by go_num, by omega, HX⟩
            case measure => simp [intOf]; omega
          · have hB : decide (J ≠ -1) = true := by simp [h1]
            have HB := Lib.hid hB
            have hfJ : g.fre J = true := by rw [← hJ] at h1 ⊢; exact jump_fre h1
            have HfJ := Lib.hid hfJ
            obtain ⟨G, hGG⟩ : ∃ G, g.guess v J = G := ⟨_, rfl⟩
            have HGG := Lib.hid hGG
            have hF := HF.out
            unfold dirsF at hF
            rw [if_neg (by rw [hJ]; exact h1), hJ, hGG] at hF
            have hvb := fre_bd HFv.out
            obtain ⟨vn, rfl⟩ := Int.eq_ofNat_of_zero_le hvb.1
            rw [Int.toNat_natCast] at hF
            have hvn : vn < n := by have := HO.out.len; omega
            have hcl := HO.out.cs
            obtain ⟨c, hc⟩ : ∃ x, s1.cs[vn]? = some x := ⟨s1.cs[vn]'(by omega), by simp⟩
            rw [show s1.cs.getD vn 0 = c by simp [hc]] at hF
            by_cases hcond : 0 ≤ c + G ∧ c + G ≤ 1000000000 ∧ s1.hp.length < 16384
            case neg => rw [if_neg hcond] at hF; cases hF
            rw [if_pos hcond] at hF
            have HF2 := Lib.hid hF
            have Hc := Lib.hid hc
            clear hB hJ h1 HF hF hfJ hGG hvb hcl hc
            go_wp2_with fail
            refine wp_region_sh (by kernel_rfl) (by kernel_rfl) HM.out.2 ?_
            repeat (go_big_quiet_step (refine calls_sh (jump_t ok (SHW.ok _) HG3.out HJ.out HB.out)))
            refine wpQuiet_nil ?_
            rintro ⟨w4, hS4⟩
            dsimp only
            have HS4 := Lib.hid hS4
            clear hS4
            go_wp2_with fail
            refine wp_region_sh (by kernel_rfl) (by kernel_rfl) HS4.out ?_
            repeat (go_big_quiet_step (refine calls_sh (guess_t ok (SHW.ok _) HG3.out HFv.out HfJ.out HGG.out)))
            refine wpQuiet_nil ?_
            rintro ⟨w5, hS5⟩
            dsimp only
            have HS5 := Lib.hid hS5
            have HX5 : Hid (SrAt W w5.drew i goal n s1 ((B, .cells #[.int .i64 k, .int .i64 vn] 110) :: L)) := ⟨M, HM.out.1, hS5.drew⟩
            clear hS5 q0 q2 b1 hne HS4
            have q3 : w5.cell? ⟨i.q, 3, none⟩ = some (.slice (some ⟨i.rc, 0, none⟩) n n) := HS5.out.cell Hm0.out.1 rfl
            have b1 : w5.cell? ⟨B, 1, none⟩ = some (.int .i64 vn) := HS5.out.cell Hm0.out.2.1 rfl
            have cc : w5.cell? ⟨i.rc, vn, none⟩ = some (.int .i64 c) := HS5.out.cell Hm0.out.2.2 (flatI_get' Hc.out)
            have mw : IntKind.i64.wrap (c + G) = c + G := by simp [IntKind.wrap, IntKind.bits, IntKind.signed]; omega
            have hv2 : (vn : Int) < (n : Int) := by omega
            go_wp2_with fail
            go_still_tail 14, (by kernel_rfl)
            change wpList _ _ _ _ _ w5.drew
            go_wp2_with fail
            refine (reach_ok ok HX5.out HG2.out HO.out.cs HO.out.fs HO.out.len HfJ.out HGo.out vn hcond.1 hcond.2.1 hcond.2.2).mono ?_
            rintro e w6 ⟨rfl, hH6⟩
            have HX : Hid (SrAt W w6 i goal n (reachF g goal s1 J vn (c + G)) ((B, .cells #[.int .i64 k, .int .i64 vn] 110) :: L) ∧ SrOk g n (reachF g goal s1 J vn (c + G)) ∧ dirsF g goal vn (dirs8.drop (j + 1)) (reachF g goal s1 J vn (c + G)) = some s2) := ⟨hH6, reachF_ok HO.out hcond.2.2, HF2.out⟩
            clear hH6 q3 b1 cc mw HX5 HS5 HM HO HF2
            go_wp2_with fail
            go_roundw
            case rel => exact ⟨j + 1, _, by go_num, by omega, HX⟩
            case measure => simp [intOf]; omega
        · have hj8 : j = 8 := by omega
          have HX : Hid (SrAt W wr i goal n s2 L ∧ SrOk g n s2 ∧ runF g goal m s2 = some s') := by
            have h1 := H.out.2.2
            rw [hj8, show dirs8.drop 8 = [] from rfl] at h1
            have h2 : s1 = s2 := Option.some.inj h1
            rw [← h2]
            refine ⟨?_, H.out.2.1, by rw [h2]; exact HD.out.2⟩
            have h3 := H.out.1
            exact (h3.perm (List.perm_middle)).tail
          have hlt2 : m < gk := by have := Hm.out; omega
          clear hj8 H
          go_wp2_with fail
          go_roundg m
          case measure => exact hlt2
          case rel => exact ⟨s2, HX⟩
end
end Go.Proofs.YtmabanabdoalaaaDoor
