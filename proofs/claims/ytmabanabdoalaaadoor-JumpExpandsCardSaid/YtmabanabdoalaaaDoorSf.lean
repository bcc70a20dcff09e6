/- Package jump: what Search answers where it finds a way. -/
import Derived.Test.YtmabanabdoalaaaDoorSe
import Derived.Test.YtmabanabdoalaaaDoorMe
namespace Go.Proofs.YtmabanabdoalaaaDoor
open Go.RowKit

/-- the way back from a tile -/
def chainF (fs : List Int) : Nat → Int → Option (List Int)
  | 0, _ => none
  | n + 1, a => if a = -1 then some [] else if 0 ≤ a ∧ a < fs.length then (chainF fs n (fs.getD a.toNat 0)).map (a :: ·) else none
def fresh (n : Nat) : Sr := ⟨[], List.replicate n (-1), List.replicate n (-1)⟩

section
variable {W w : World} {L : List (Nat × Obj)} {p : Nat} {g : Gd}
abbrev zeroI (n : Nat) : Obj := .cells (Array.replicate n (Value.int .i64 0)) 3 (0, 0)
theorem sr_made {w1 : World} {hp : Nat} {A : Obj} (hH : HpAt W w1 hp [] L) (o : Obj) : HpAt W (((w1.alloc A).alloc A).alloc o) hp [] ((w1.heap.size + 1 + 1, o) :: (w1.heap.size + 1, A) :: (w1.heap.size, A) :: L) := by
  have := ((hH.alloc A).alloc A).alloc o
  simpa using this
theorem zeroI_eq (n : Nat) : zeroI n = inO (mkA n fun j => if j < 0 then -1 else 0) := by
  have : mkA n (fun j => if j < 0 then (-1 : Int) else 0) = List.replicate n 0 := by rw [mkA_rep]; exact mkA_congr (fun _ _ => by simp)
  rw [this]
  simp [zeroI, inO, flatI_map]
theorem fresh_eq (n : Nat) : mkA n (fun j => if j < n then (-1 : Int) else 0) = List.replicate n (-1) := by
  rw [mkA_rep]; exact mkA_congr (fun i h => by simp [h])
theorem chain_len {fs : List Int} : ∀ (n : Nat) (a : Int) (l : List Int), chainF fs n a = some l → l.length ≤ n := by
  intro n
  induction n with
  | zero => intro a l h; cases h
  | succ n ih =>
    intro a l h
    unfold chainF at h
    split at h
    · have := Option.some.inj h; subst this; simp
    · split at h
      · obtain ⟨m, h1, h2⟩ := Option.map_eq_some_iff.1 h
        subst h2
        have := ih _ _ h1
        simp; omega
      · cases h
theorem perm_rot {α : Type} (A B C : List α) : (A ++ (B ++ C)).Perm (B ++ (A ++ C)) := by
  rw [← List.append_assoc, ← List.append_assoc]
  exact List.perm_append_comm.append_right C
theorem sr_start {w1 : World} {i : Ids} {goal : Int} {n : Nat} {cs fs : List Int} (h : SH W w1 ((i.q, srO i goal n) :: (i.rc, inO cs) :: (i.rf, inO fs) :: L)) : SH W w1 (srL i goal n cs fs ++ L) := h
set_option maxHeartbeats 6400000 in
set_option maxRecDepth 100000 in
theorem search_ok (ok : GdOk g) (hS : SH W w L) (hG : GdIn L p g) {s t c : Int} (hs : g.fre s = true) (ht : g.fre t = true) {N N2 : Nat} {s' : Sr} {pts : List Int} (hrun : runF g t N (reachF g t (fresh g.fr.length) s (-1) 0) = some s')
    (hcost : s'.cs.getD t.toNat 0 = c) (hc : c ≠ -1) (hchain : chainF s'.fs N2 t = some pts) (hok : SrOk g g.fr.length s') (hN2 : N2 ≤ 100000) :
    Calls Tryd.prog 19 #[.pointer (some ⟨p, 0, none⟩), .int .i64 s, .int .i64 t] w fun e w' => ∃ v, e = .returned (.tuple #[v, .int .i64 c, .nilIface]) ∧ Ints W w' L v pts.reverse := by
  have HS := Lib.hid hS.drew
  have HS0 := Lib.hid hS
  have HG := Lib.hid hG
  have HF := Lib.hid (And.intro hs ht)
  have HR := Lib.hid (And.intro hrun (And.intro hcost (And.intro hchain hok)))
  have bs := fre_bd hs
  have bt := fre_bd ht
  obtain ⟨n, hn⟩ : ∃ n, g.fr.length = n := ⟨_, rfl⟩
  rw [hn] at bs bt HR
  have hnb : n ≤ 1024 := by rw [← hn, ok.len]; exact mul_le_1024 ok.w2 ok.h2
  have Hn := Lib.hid hn
  obtain ⟨i0, hi1, hz0, hz1, hz2⟩ := info_parts infoInt
  have HI := Lib.hid (And.intro hi1 (And.intro hz0 (And.intro hz1 hz2)))
  have HM := Lib.hid (run_make1 (P := Tryd.prog) 24 3 i0 (.int .i64 0) Tryd.underlying24 hi1 hz0 hz1 rfl (by omega) n (by omega))
  obtain ⟨s, rfl⟩ := Int.eq_ofNat_of_zero_le bs.1
  obtain ⟨t, rfl⟩ := Int.eq_ofNat_of_zero_le bt.1
  have hc1 : (c == -1) = false := by simp [hc]
  have len_t : ∀ (w : World) (L' : List (Nat × Obj)), SH W w L' → GdIn L' p g → Calls Tryd.prog 37 #[.pointer (some ⟨p, 0, none⟩)] w fun e w' => e = .returned (.int .i64 n) ∧ w = w'   := fun _ _ h1 h2 => by rw [← hn]; exact len_any h1 h2
  have HLen := Lib.hid len_t
  have b0 : (s : Int) < (n : Int) := bs.2
  have b1 : (t : Int) < (n : Int) := bt.2
  clear hS hG hs ht hrun hcost hchain hok bs bt hn hi1 hz0 hz1 hz2 hc len_t
  go_enter Tryd.func19, Tryd.ntmps19
  go_wp2_with fail
  refine (HLen.out _ _ HS0.out HG.out).mono ?_
  rintro e w1 ⟨rfl, rfl⟩
  go_wp2_with fail
  refine (HLen.out _ _ HS0.out HG.out).mono ?_
  rintro e w1 ⟨rfl, rfl⟩
  go_wp2_with fail
  refine (fre_any HS0.out HG.out s).mono ?_
  rintro e w1 ⟨rfl, rfl⟩
  rw [HF.out.1]
  go_wp2_with fail
  refine (fre_any HS0.out HG.out t).mono ?_
  rintro e w1 ⟨rfl, rfl⟩
  rw [HF.out.2]
  go_wp2_with fail
  have hmk := HM.out
  go_region_with (first | (go_at_call 42; refine (heapNew_any HS.out).mono ?_; rintro e w1 ⟨hp, rfl, hH⟩; have HH := Lib.hid hH; clear hH) | (go_at_call 37; refine (HLen.out _ _ (HH.out.SH) HG.out).mono ?_; rintro e w9 ⟨rfl, rfl⟩) | (go_at_call 37; refine (HLen.out _ _ ((HH.out.alloc _).SH) (HG.out.mono (fun x h => .tail _ h))).mono ?_; rintro e w9 ⟨rfl, rfl⟩))
  all_goals
    first
    | (obtain ⟨w2, hw2⟩ : ∃ w2, w2 = ((w1.alloc (zeroI n)).alloc (zeroI n)).alloc (.cells #[.pointer (some ⟨p, 0, none⟩), .pointer (some ⟨hp, 0, none⟩), .int .i64 t, .slice (some ⟨w1.heap.size, 0, none⟩) n n, .slice (some ⟨w1.heap.size + 1, 0, none⟩) n n] 83) := ⟨_, rfl⟩
       rw [← hw2]
       obtain ⟨i, hi⟩ : ∃ i : Ids, i = ⟨w1.heap.size + 1 + 1, hp, w1.heap.size, w1.heap.size + 1, p⟩ := ⟨_, rfl⟩
       have HX : Hid (SrAt W w2 i t n ⟨[], mkA n (fun j => if j < 0 then -1 else 0), mkA n (fun j => if j < 0 then -1 else 0)⟩ L) := by
         have h3 := sr_made (A := zeroI n) HH.out (.cells #[.pointer (some ⟨p, 0, none⟩), .pointer (some ⟨hp, 0, none⟩), .int .i64 t, .slice (some ⟨w1.heap.size, 0, none⟩) n n, .slice (some ⟨w1.heap.size + 1, 0, none⟩) n n] 83)
         rw [← hw2] at h3
         have h4 := h3.perm ((List.Perm.swap _ _ _).cons _)
         rw [zeroI_eq] at h4
         rw [hi]
         exact h4)
    | (obtain ⟨w2, hw2⟩ : ∃ w2, w2 = ((w1.alloc (zeroI n)).alloc (zeroI n)).alloc (.cells #[.pointer (some ⟨p, 0, none⟩), .pointer (some ⟨hp, 0, none⟩), .int .i64 t, .slice (some ⟨w1.heap.size + 1, 0, none⟩) n n, .slice (some ⟨w1.heap.size, 0, none⟩) n n] 83) := ⟨_, rfl⟩
       rw [← hw2]
       obtain ⟨i, hi⟩ : ∃ i : Ids, i = ⟨w1.heap.size + 1 + 1, hp, w1.heap.size + 1, w1.heap.size, p⟩ := ⟨_, rfl⟩
       have HX : Hid (SrAt W w2 i t n ⟨[], mkA n (fun j => if j < 0 then -1 else 0), mkA n (fun j => if j < 0 then -1 else 0)⟩ L) := by
         have h3 := sr_made (A := zeroI n) HH.out (.cells #[.pointer (some ⟨p, 0, none⟩), .pointer (some ⟨hp, 0, none⟩), .int .i64 t, .slice (some ⟨w1.heap.size + 1, 0, none⟩) n n, .slice (some ⟨w1.heap.size, 0, none⟩) n n] 83)
         rw [← hw2] at h3
         rw [zeroI_eq] at h3
         rw [hi]
         exact h3)
    have hip : i.p = p := by rw [hi]
    rw [show w1.heap.size + 1 + 1 = i.q by rw [hi]]
    have HG2 : Hid (GdIn L i.p g) := by rw [hip]; exact HG.out
    clear hw2 hi hip hmk HH
    have q3 : w2.cell? ⟨i.q, 3, none⟩ = some (.slice (some ⟨i.rc, 0, none⟩) n n) := HX.out.SH.cell (.head _) rfl
    go_wp2_with fail
    clear q3
    go_loopw [61] (fun u wr => ∃ k : Nat, u = .int .i64 k ∧ k ≤ n ∧ Hid (SrAt W wr i t n ⟨[], mkA n (fun j => if j < k then -1 else 0), mkA n (fun j => if j < k then -1 else 0)⟩ L)) (fun u _ => n - (intOf u).toNat)
    case atStart => exact ⟨0, rfl, Nat.zero_le _, HX.out⟩
    case round =>
      obtain ⟨k, rfl, hk, H⟩ := hrel
      clear HX
      by_cases hlt : k < n
      · have hS := H.out.SH
        have q3 : wr.cell? ⟨i.q, 3, none⟩ = some (.slice (some ⟨i.rc, 0, none⟩) n n) := hS.cell (.head _) rfl
        have q4 : wr.cell? ⟨i.q, 4, none⟩ = some (.slice (some ⟨i.rf, 0, none⟩) n n) := hS.cell (.head _) rfl
        have a0 : wr.cell? ⟨i.rc, k, none⟩ = some (.int .i64 0) := hS.cell (.tail _ (.head _)) (flatI_get' (by rw [mkA_get hlt]; simp))
        have a1 : wr.cell? ⟨i.rf, k, none⟩ = some (.int .i64 0) := hS.cell (.tail _ (.tail _ (.head _))) (flatI_get' (by rw [mkA_get hlt]; simp))
        have f0 : ∀ o, wr.frozen? ⟨i.rc, o, none⟩ = false := fun o => hS.free (.tail _ (.head _))
        have f1 : ∀ o, wr.frozen? ⟨i.rf, o, none⟩ = false := fun o => hS.free (.tail _ (.tail _ (.head _)))
        have n1 : i.rc ≠ i.q := (hS.ne (.head _)).symm
        have n2 : i.rf ≠ i.q := (hS.ne (.tail _ (.head _))).symm
        have n3 : i.rf ≠ i.rc := (hS.tail.ne (.head _)).symm
        have hk2 : (k : Int) < (n : Int) := by omega
        have HO := Lib.hid ((Own.setAt (i := 2) (off := k) (v := .int .i64 (-1)) (Own.setAt (i := 1) (off := k) (v := .int .i64 (-1)) H.out rfl) rfl).drew)
        have HX : Hid (SrAt W ((wr.setCell ⟨i.rc, k, none⟩ (.int .i64 (-1))).setCell ⟨i.rf, k, none⟩ (.int .i64 (-1))).drew i t n ⟨[], mkA n (fun j => if j < k + 1 then -1 else 0), mkA n (fun j => if j < k + 1 then -1 else 0)⟩ L) := by
          have h3 := HO.out
          dsimp only at h3
          have e : (mkA n (fun j => if j < k then (-1 : Int) else 0)).set k (-1) = mkA n (fun j => if j < k + 1 then (-1 : Int) else 0) :=
            mkA_set (by simp) (fun i hi => by
              have : i < k + 1 ↔ i < k := by omega
              simp [this])
          simp only [flatI_set, e] at h3
          exact h3
        clear hS H HO
        go_wp2_with fail
        go_region
        go_wp2_with fail
        go_roundw
        case rel => exact ⟨k + 1, by go_num, by omega, HX⟩
        case measure => simp [intOf]; omega
      · have hkn : k = n := by omega
        have HX : Hid (SrAt W wr i t n (fresh n) L) := by
          have h3 := H.out
          rw [hkn, fresh_eq] at h3
          exact h3
        have ho : SrOk g n (fresh n) := ⟨Hn.out.symm, by simp [fresh], by simp [fresh], by simp [fresh]⟩
        have HO := Lib.hid ho
        clear hkn H ho
        go_wp2_with fail
        refine (reach_ok ok HX.out HG2.out HO.out.cs HO.out.fs HO.out.len HF.out.1 HF.out.2 (-1) (c := 0) (by omega) (by omega) (by simp [fresh])).mono ?_
        rintro e w3 ⟨rfl, hH3⟩
        have HH3 := Lib.hid hH3
        have hO2 : SrOk g n (reachF g t (fresh n) s (-1) 0) := reachF_ok HO.out (by simp [fresh])
        have HO2 := Lib.hid hO2
        clear hH3 HX HO hO2
        go_wp2_with fail
        refine (run_ok ok HH3.out HG2.out HO2.out HF.out.2 HR.out.1).mono ?_
        rintro e w4 ⟨rfl, hH4⟩
        have HH4 := Lib.hid hH4
        clear hH4 HH3 HO2
        have htn : t < n := by omega
        have hlc : s'.cs.length = n := HR.out.2.2.2.cs
        have hlf : s'.fs.length = n := HR.out.2.2.2.fs
        have q3 : w4.cell? ⟨i.q, 3, none⟩ = some (.slice (some ⟨i.rc, 0, none⟩) n n) := HH4.out.SH.cell (.head _) rfl
        have cc : w4.cell? ⟨i.rc, t, none⟩ = some (.int .i64 c) := HH4.out.SH.cell (.tail _ (.head _)) (flatI_get' (by
          have h1 := HR.out.2.1
          rw [Int.toNat_natCast] at h1
          exact getElem?_getD (l := s'.cs) (i := t) h1 (by omega)))
        go_wp2_with fail
        clear q3 cc
        go_loopg [13, 14] N2 (fun gm u a wr => ∃ (at' : Int) (st : St) (ys : List Int), u = rowV ys.length st ∧ a = .int .i64 at' ∧ Hid (∃ l, chainF s'.fs gm at' = some l ∧ pts = ys ++ l ∧ rowOk 1 ys.length (flatI ys) st ∧ Own (HpIs i.hp s'.hp) W wr (rowL 3 (flatI ys) st ++ (srL i t n s'.cs s'.fs ++ L))))
        case atStart => exact ⟨t, none, [], rfl, rfl, pts, HR.out.2.2.1, rfl, ⟨rfl, rfl⟩, HH4.out⟩
        case round =>
          obtain ⟨a, st, ys, rfl, rfl, H⟩ := hrel
          clear HH4
          obtain ⟨l, hl, hpts, hrow, hO⟩ := H.out
          have HQ := Lib.hid (And.intro hl (And.intro hpts (And.intro hrow hO)))
          obtain ⟨m, hm⟩ : ∃ m, gk = m + 1 := by
            cases gk with
            | zero => cases hl
            | succ m => exact ⟨m, rfl⟩
          have hyl : ys.length ≤ 100000 := by
            have h1 := chain_len _ _ _ HR.out.2.2.1
            rw [hpts] at h1
            simp at h1; omega
          have hlt2 : m < gk := by omega
          rw [hm] at hl
          unfold chainF at hl
          clear hpts hrow hO H
          by_cases ha : a = -1
          · have k1 : (a == -1) = true := by simp [ha]
            have k2 : (a != -1) = false := by simp [ha]
            have HZ : Hid (pts = ys) := by
              rw [if_pos ha] at hl
              have h1 := HQ.out.2.1
              rw [← Option.some.inj hl, List.append_nil] at h1
              exact h1
            clear hl ha hm
            cases st with
            | none =>
              exfalso
              have h1 := HR.out.2.2.1
              rw [HZ.out, HQ.out.2.2.1.1 |> List.eq_nil_of_length_eq_zero] at h1
              cases N2 with
              | zero => cases h1
              | succ N2 =>
                unfold chainF at h1
                rw [if_neg (by omega), if_pos (by omega)] at h1
                obtain ⟨_, _, h2⟩ := Option.map_eq_some_iff.1 h1
                cases h2
            | some st =>
              obtain ⟨r, cap, sp⟩ := st
              obtain ⟨M, hM, hSM⟩ := HQ.out.2.2.2
              have hSM2 : SH W wr (rowL 3 (flatI ys) (some (r, cap, sp)) ++ (M ++ (srL i t n s'.cs s'.fs ++ L))) := hSM.perm (perm_rot _ _ _)
              have HSM := Lib.hid hSM2
              clear hM hSM hSM2
              simp only [rowV]
              go_wp2_with fail
              refine (reverse_ok HSM.out HQ.out.2.2.1.2.2.1 hyl).mono ?_
              rintro e w5 ⟨rfl, hS5⟩
              have HS5 := Lib.hid hS5
              have m0 : (i.q, srO i t n) ∈ rowL 3 (flatI ys.reverse) (some (r, cap, sp)) ++ (M ++ (srL i t n s'.cs s'.fs ++ L)) := List.mem_append_right _ (List.mem_append_right _ (.head _))
              have m1 : (i.rc, inO s'.cs) ∈ rowL 3 (flatI ys.reverse) (some (r, cap, sp)) ++ (M ++ (srL i t n s'.cs s'.fs ++ L)) := List.mem_append_right _ (List.mem_append_right _ (.tail _ (.head _)))
              have q3 : w5.cell? ⟨i.q, 3, none⟩ = some (.slice (some ⟨i.rc, 0, none⟩) n n) := hS5.cell m0 rfl
              have htn : t < n := by omega
              have cc : w5.cell? ⟨i.rc, t, none⟩ = some (.int .i64 c) := hS5.cell m1 (flatI_get' (by
                have h1 := HR.out.2.1
                rw [Int.toNat_natCast] at h1
                have hlc : s'.cs.length = n := HR.out.2.2.2.cs
                exact getElem?_getD (l := s'.cs) (i := t) h1 (by omega)))
              clear hS5 m0 m1
              go_wp2_with fail
              go_quiet (fail)
              have HS6 := Lib.hid (HS5.out.drewN (n := nq))
              generalize w5.drewN nq = w6 at HS6 ⊢
              clear q3 cc HS5
              go_wp2_with fail
              go_ret3
              refine ⟨_, rfl, ?_⟩
              rw [HZ.out]
              refine ⟨r, cap, sp, by rw [List.length_reverse]; rfl, ?_, ?_⟩
              · have h1 := HQ.out.2.2.1
                simp only [rowOk, flatI_len, List.length_append, List.length_reverse] at h1 ⊢
                exact h1
              · have h1 := HS6.out
                exact h1.sub (List.Sublist.append_left ((List.sublist_append_right (srL i t n s'.cs s'.fs) L).trans (List.sublist_append_right M _)) _)
          · have k1 : (a == -1) = false := by simp [ha]
            have k2 : (a != -1) = true := by simp [ha]
            rw [if_neg ha] at hl
            have hlf : s'.fs.length = n := HR.out.2.2.2.fs
            by_cases hab : 0 ≤ a ∧ a < s'.fs.length
            case neg => rw [if_neg hab] at hl; cases hl
            rw [if_pos hab] at hl
            obtain ⟨a, rfl⟩ := Int.eq_ofNat_of_zero_le hab.1
            rw [Int.toNat_natCast] at hl
            obtain ⟨nx, hnx⟩ : ∃ x, s'.fs[a]? = some x := ⟨s'.fs[a]'(by omega), by simp⟩
            rw [show s'.fs.getD a 0 = nx by simp [hnx]] at hl
            obtain ⟨l', hl', hll⟩ := Option.map_eq_some_iff.1 hl
            have HN := Lib.hid (And.intro hnx (And.intro hl' hll))
            have han : a < n := by omega
            obtain ⟨M, hM, hSM⟩ := HQ.out.2.2.2
            have hSM2 : SH W wr (rowL 3 (flatI ys) st ++ (M ++ (srL i t n s'.cs s'.fs ++ L))) := hSM.perm (perm_rot _ _ _)
            have HA := Lib.hid (hSM2.alloc (.cells #[.int .i64 a] 3))
            have HMM := Lib.hid hM
            have hyb : ys.length ≤ 100000 := hyl
            clear hl hnx hl' hll hM hSM hSM2 hab hlf ha hm
            have hai : (a : Int) < (n : Int) := by omega
            have hpre : SH W (wr.alloc (.cells #[.int .i64 a] 3)) (rowL 3 (flatI ys) st ++ (M ++ (srL i t n s'.cs s'.fs ++ L))) := HA.out.tail
            have HPre := Lib.hid hpre
            clear hpre
            go_wp2_with (at_builtin; refine wpList_append_sh (st := st) (L := M ++ (srL i t n s'.cs s'.fs ++ L)) rfl (.tmp 107) (.tmp 109) 24 rfl i0 _ 8 Tryd.underlying24 HI.out.1 HI.out.2.1 HI.out.2.2.1 HI.out.2.2.2 rfl (by decide) HPre.out HQ.out.2.2.1 rfl _ 1 1 [.int .i64 a] rfl rfl (newsAt HA.out (by simp)) (by intro u hu; simp at hu; subst hu; rfl) (by decide) (by unfold maxLen; omega) (by omega) ?_; intro r' cap' sp' w5 ok1 hS1; have q4 : w5.cell? ⟨i.q, 4, none⟩ = some (.slice (some ⟨i.rf, 0, none⟩) n n) := hS1.cell (List.mem_append_right _ (List.mem_append_right _ (.head _))) rfl; have cf : w5.cell? ⟨i.rf, a, none⟩ = some (.int .i64 nx) := hS1.cell (List.mem_append_right _ (List.mem_append_right _ (.tail _ (.tail _ (.head _))))) (flatI_get' HN.out.1); have HGr := Lib.hid (And.intro ok1 hS1); clear ok1 hS1 HA HPre)
            have e1 : flatI ys ++ [.int .i64 (a : Int)] = flatI (ys ++ [(a : Int)]) := by rw [flatI_append]; rfl
            have hS5 : SH W w5 (rowL 3 (flatI (ys ++ [(a : Int)])) (some (r', cap', sp')) ++ (M ++ (srL i t n s'.cs s'.fs ++ L))) := by
              have := HGr.out.2
              rw [e1] at this
              exact this
            have hok5 : rowOk 1 (ys ++ [(a : Int)]).length (flatI (ys ++ [(a : Int)])) (some (r', cap', sp')) := by
              have := HGr.out.1
              rw [e1] at this
              simpa using this
            have hO5 : Own (HpIs i.hp s'.hp) W w5 (rowL 3 (flatI (ys ++ [(a : Int)])) (some (r', cap', sp')) ++ (srL i t n s'.cs s'.fs ++ L)) := ⟨M, HMM.out, hS5.perm (perm_rot _ _ _)⟩
            have HF5 : Hid (∃ l, chainF s'.fs m nx = some l ∧ pts = (ys ++ [(a : Int)]) ++ l ∧ rowOk 1 (ys ++ [(a : Int)]).length (flatI (ys ++ [(a : Int)])) (some (r', cap', sp')) ∧ Own (HpIs i.hp s'.hp) W w5 (rowL 3 (flatI (ys ++ [(a : Int)])) (some (r', cap', sp')) ++ (srL i t n s'.cs s'.fs ++ L))) := by
              refine ⟨l', HN.out.2.1, ?_, hok5, hO5⟩
              have h1 := HQ.out.2.1
              rw [← HN.out.2.2] at h1
              rw [h1]; simp
            clear e1 hS5 hok5 hO5 HGr
            go_wp2_with fail
            go_roundg m
            case measure => exact hlt2
            case rel => exact ⟨nx, some (r', cap', sp'), ys ++ [(a : Int)], by simp [rowV], rfl, HF5⟩
end
end Go.Proofs.YtmabanabdoalaaaDoor
