/- The law HandlesOnce: the walk. -/
import Derived.Test.YteafeejdekihpaaDoorPlI
import Derived.StillTailTactics
import Derived.Deep.LoopGhost
namespace Go.Proofs.YteafeejdekihpaaDoor
open Go.RowKit

theorem infoHandle : (Tryd.prog.info? 42).map (fun i => (i.zero, i.size, i.bytes)) = some (some (.agg #[.int .i64 0, .int .i64 0]), 2, 16) := by kernel_rfl
set_option maxHeartbeats 3200000 in
set_option maxRecDepth 100000 in
theorem once_any {W : World} {xs : List (Int × Int × Int × Int)} {v : Value} {er : Nat → Addr} (hx : Sl encO 4 (old W) v xs) (hE : Errs (old W) er) :
    Calls Tryd.prog 4 #[v] W fun e w' => e = .returned (.bool true) ∧ Below W.heap.size W w' := by
  have hmm := @run_makeMap Tryd.prog
  have HX := Lib.hid hx
  have HE := Lib.hid hE
  clear hE
  obtain ⟨a, c, rfl, hc, _⟩ := hx
  by_cases hbig : 150 < xs.length
  · have hbig2 : (150 : Int) < (xs.length : Int) := by omega
    go_enter Tryd.func4, Tryd.ntmps4
    go_wp2_with fail
    refine (alive04 _).mono ?_
    rintro e w1 ⟨rfl, hb⟩
    go_wp2_with fail
    go_ret
    exact ⟨rfl, hb⟩
  · have hn : xs.length ≤ 150 := by omega
    clear hbig
    go_enter Tryd.func4, Tryd.ntmps4
    go_wp2_with fail
    refine (alive04 _).mono ?_
    rintro e w1 ⟨rfl, hb⟩
    have HS1 := Lib.hid ((SH.start W).below hb)
    clear hb
    go_wp2_with fail
    refine (plNew_any HS1.out).mono ?_
    rintro e w2 ⟨p, rfl, hH2⟩
    have HH2 := Lib.hid hH2
    clear hH2
    go_wp2_with fail
    go_loopw [25, 6] (fun t s wr => ∃ (k r cap : Nat) (live : List (Int × Int)), t = .int .i64 k ∧ s = .slice (some ⟨r, 0, none⟩) live.length cap ∧ k ≤ xs.length ∧ Hid (OnSt W wr p w2.heap.size (w2.heap.size + 1) k r cap live)) (fun t _ _ => xs.length - (intOf t).toNat)
    case atStart =>
      refine ⟨0, w2.heap.size + 1 + 1, 0, [], rfl, rfl, Nat.zero_le _, ⟨⟨[], [], 0⟩, [], 0, [], 0, [], once_new, mok_nil, mok_nil, ⟨rfl, rfl, Nat.le_refl _, Nat.zero_le _⟩, ?_⟩⟩
      have h1 := ((HH2.out.alloc (.map #[] 0)).alloc (.map #[] 0)).alloc (.cells #[] 42)
      have h2 := h1.perm ((List.Perm.swap _ _ _).cons _)
      simpa [onL, mEs, flatE] using h2
    case round =>
      obtain ⟨k, r, cap, live, rfl, rfl, hk, H⟩ := hrel
      by_cases hlt : k < xs.length
      · obtain ⟨⟨x0, x1, x2, x3⟩, hxk⟩ : ∃ x, xs[k]? = some x := ⟨xs[k], by simp [hlt]⟩
        obtain ⟨a', c', he, _, hr⟩ := HX.out
        simp only [Value.slice.injEq, true_and] at he
        obtain ⟨rfl, rfl⟩ := he
        rcases hr with h0 | ⟨b, off, cc, E, fr, rfl, hm, hcell⟩
        · rw [h0] at hlt; simp at hlt
        obtain ⟨q, lg, cg, lo, co, sp, hO, hmg, hmo, hrow, hH⟩ := H.out.ex
        have hm' : (b, Obj.cells cc E fr) ∈ onL r sp live w2.heap.size (w2.heap.size + 1) cg co lg lo ++ old W := List.mem_append_right _ hm
        have hc0 : wr.cell? ⟨b, off + k * 4, none⟩ = some (.int .i64 x0) := hH.cell hm' (hcell k _ hxk 0 _ rfl)
        have hc1 : wr.cell? ⟨b, off + k * 4 + 1, none⟩ = some (.int .i64 x1) := hH.cell hm' (hcell k _ hxk 1 _ rfl)
        have hc2 : wr.cell? ⟨b, off + k * 4 + 2, none⟩ = some (.int .i64 x2) := hH.cell hm' (hcell k _ hxk 2 _ rfl)
        have hc3 : wr.cell? ⟨b, off + k * 4 + 3, none⟩ = some (.int .i64 x3) := hH.cell hm' (hcell k _ hxk 3 _ rfl)
        have HA := Lib.hid (And.intro hO (And.intro hmg (And.intro hmo (And.intro hrow (hH.alloc (.cells #[.int .i64 x0, .int .i64 x1, .int .i64 x2, .int .i64 x3] 44))))))
        have hcap : live.length ≤ cap := hrow.2.2.1
        clear hO hmg hmo hrow hH hm' hm hcell hxk H
        rcases Classical.em (x0 = 2 ∧ 0 < live.length) with hA | hA
        case' inl =>
          obtain ⟨rfl, hpos⟩ := hA
          have hpos2 : (0 : Int) < (live.length : Int) := by omega
          have hcl : live.length ≤ 1000 := by
            have h1 := HA.out.1.len
            have h2 := HA.out.1.ok.n0
            omega
          have hu := u64_nat (n := live.length) (by omega)
          obtain ⟨j, hj, hJ⟩ := idx_of x1 hpos (by omega)
          obtain ⟨⟨i', gn⟩, hlj⟩ : ∃ x, live[j]? = some x := ⟨live[j], by simp [hj]⟩
          have hl0 : (wr.alloc (.cells #[.int .i64 2, .int .i64 x1, .int .i64 x2, .int .i64 x3] 44)).cell? ⟨r, j * 2, none⟩ = some (.int .i64 i') := HA.out.2.2.2.2.cell (.tail _ (.head _)) (flatE_get0 hlj)
          have hl1 : (wr.alloc (.cells #[.int .i64 2, .int .i64 x1, .int .i64 x2, .int .i64 x3] 44)).cell? ⟨r, j * 2 + 1, none⟩ = some (.int .i64 gn) := HA.out.2.2.2.2.cell (.tail _ (.head _)) (flatE_get1 hlj)
          have Hlj := Lib.hid hlj
          clear hlj
          go_wp2_with fail
          have HB := Lib.hid (HA.out.2.2.2.2.alloc (.cells #[.int .i64 i', .int .i64 gn] 42))
          rw [hJ]
          clear hl0 hl1 hc0 hc1 hc2 hc3 hJ hu
          obtain ⟨M, hM, hS⟩ := HB.out.drew
          obtain ⟨ok1, hS1⟩ := on_owned hS HA.out.2.2.2.1 (Nat.le_of_lt hj)
          have HM := Lib.hid (And.intro hM (And.intro ok1 hS1))
          clear hM hS ok1 hS1
          have hjc : j ≤ cap := by omega
          have hjl : j + 1 ≤ live.length := hj
          have hjk : j + 1 ≤ cap := by omega
          have hcase : j + 1 < live.length ∨ (live.length - (j + 1) = 0 ∧ cap = j + 1) ∨ (live.length - (j + 1) = 0 ∧ ¬ cap = j + 1) := by omega
          obtain ⟨live', hl'⟩ : ∃ l, l = live.take j ++ live.drop (j + 1) := ⟨_, rfl⟩
          have e1 : flatE (live.take j) ++ flatE (live.drop (j + 1)) = flatE live' := by rw [hl']; simp [flatE]
          have e2 : j + (live.length - (j + 1)) = live'.length := by rw [hl']; simp; omega
          rcases hcase with hm0 | ⟨h0, hcn⟩ | ⟨h0, hcn⟩
          case' inl =>
            have hcn : ¬ cap = j + 1 := by omega
            have hw := i64_succ (n := j) (by omega)
            have hw1 : (0 : Int) ≤ (j : Int) + 1 := by omega
            have hw2 : (j : Int) + 1 ≤ (live.length : Int) := by omega
            obtain ⟨i0, hi1, hz0, hz1, hz2⟩ := info_parts infoHandle
            have HI := Lib.hid (And.intro hi1 (And.intro hz0 (And.intro hz1 hz2)))
            clear hi1 hz0 hz1 hz2
            have hnews := on_news hj HM.out.2.2
            have hnl : (flatE (live.drop (j + 1))).length = (live.length - (j + 1)) * 2 := by rw [flatE_len]; simp
            have hown0 := SH.ownsRow HM.out.2.2 HM.out.2.1
            have hone : ∀ u ∈ flatE (live.drop (j + 1)), u.oneCell' = true := flatE_one _
            have hn0 : 0 < live.length - (j + 1) := by omega
            have hn1 : j + (live.length - (j + 1)) ≤ maxLen := by unfold maxLen; omega
            have hn2 : (j + (live.length - (j + 1))) * 16 ≤ 140737488355328 := by omega
            go_still_tail 7, (by kernel_rfl)
            change wpList _ _ _ _ _ (((wr.alloc (.cells #[.int .i64 2, .int .i64 x1, .int .i64 x2, .int .i64 x3] 44)).alloc (.cells #[.int .i64 i', .int .i64 gn] 42)).drew)
            refine wpList_append_lies _ rfl _ _ 40 rfl 0 42 i0 _ 2 16 Tryd.underlying40 HI.out.1 HI.out.2.1 HI.out.2.2.1 HI.out.2.2.2 rfl (by decide) _ j (flatE (live.take j)) rfl hown0 _ (live.length - (j + 1)) _ (flatE (live.drop (j + 1))) rfl hnl hnews hone hn0 hn1 hn2 (Nat.zero_le _) _ rfl ?_
            intro g cap1 w3 hown hgrow hat hlt2
            obtain ⟨sp1, ok3, hS3⟩ := SH.appended HM.out.2.2 hgrow rfl hown (hat.imp (fun h => h) (fun h => h.trans rfl))
            rw [e1] at ok3 hS3
            rw [e2] at ok3 ⊢
            have HT := Lib.hid (And.intro ok3 (on_back HM.out.1 hS3))
            clear hnews hnl hown0 hone hn0 hn1 hn2 hown hgrow hat hlt2 ok3 hS3 HI hw hw1 hw2 hcn hm0
          case' inr.inl =>
            go_region
            obtain ⟨g, hg⟩ : ∃ g, g = r := ⟨_, rfl⟩
            obtain ⟨cap1, hcap1⟩ : ∃ c, c = cap := ⟨_, rfl⟩
            obtain ⟨sp1, hsp1⟩ : ∃ s, s = flatE (live.drop j) ++ sp := ⟨_, rfl⟩
            obtain ⟨w3, hw3⟩ : ∃ w', w' = ((wr.alloc (.cells #[.int .i64 2, .int .i64 x1, .int .i64 x2, .int .i64 x3] 44)).alloc (.cells #[.int .i64 i', .int .i64 gn] 42)).drew := ⟨_, rfl⟩
            have hd : live.drop (j + 1) = [] := List.drop_eq_nil_of_le (by omega)
            have e3 : live.take j = live' := by rw [hl', hd, List.append_nil]
            have e4 : j = live'.length := by omega
            have HM2 := HM.out
            rw [← hsp1, ← hw3, ← hg, ← hcap1, e3] at HM2
            rw [← hw3, ← hg]
            have HT : Hid (rowOk 2 live'.length (flatE live') (some (g, cap1, sp1)) ∧ PlAt W w3 p q _) := ⟨by rw [← e4]; exact HM2.2.1, on_back HM2.1 HM2.2.2⟩
            rw [show Value.slice (some ⟨g, 0, none⟩) j (j + 1) = Value.slice (some ⟨g, 0, none⟩) live'.length cap1 by rw [← e4, hcap1, hcn]]
            clear HM2 hsp1 hw3 hg hcap1 e3 hd hcn h0
          case' inr.inr =>
            go_region
            obtain ⟨g, hg⟩ : ∃ g, g = r := ⟨_, rfl⟩
            obtain ⟨cap1, hcap1⟩ : ∃ c, c = cap := ⟨_, rfl⟩
            obtain ⟨sp1, hsp1⟩ : ∃ s, s = flatE (live.drop j) ++ sp := ⟨_, rfl⟩
            obtain ⟨w3, hw3⟩ : ∃ w', w' = ((wr.alloc (.cells #[.int .i64 2, .int .i64 x1, .int .i64 x2, .int .i64 x3] 44)).alloc (.cells #[.int .i64 i', .int .i64 gn] 42)).drew := ⟨_, rfl⟩
            have hd : live.drop (j + 1) = [] := List.drop_eq_nil_of_le (by omega)
            have e3 : live.take j = live' := by rw [hl', hd, List.append_nil]
            have e4 : j = live'.length := by omega
            have HM2 := HM.out
            rw [← hsp1, ← hw3, ← hg, ← hcap1, e3] at HM2
            rw [← hw3, ← hg, ← hcap1]
            have HT : Hid (rowOk 2 live'.length (flatE live') (some (g, cap1, sp1)) ∧ PlAt W w3 p q _) := ⟨by rw [← e4]; exact HM2.2.1, on_back HM2.1 HM2.2.2⟩
            rw [show Value.slice (some ⟨g, 0, none⟩) j cap1 = Value.slice (some ⟨g, 0, none⟩) live'.length cap1 by rw [← e4]]
            clear HM2 hsp1 hw3 hg hcap1 e3 hd hcn h0
          all_goals
            obtain ⟨i, hi, hl, hg0, hg1, hO'⟩ := once_free (c := co) HA.out.1 (by omega) Hlj.out
            rw [← hl'] at hO'
            clear hl' e1 e2
            obtain rfl : i' = (i : Int) := hi
            dsimp only at hl hg0 hg1 hO'
            have Hmg := Lib.hid HA.out.2.1
            have Hmo := Lib.hid HA.out.2.2.1
            have Hfr := Lib.hid HA.out.1.frs
            have Hn := Lib.hid HA.out.1.ok.n0
            have HO' := Lib.hid hO'
            have Hl := Lib.hid hl
            have hb0 : w3.cell? ⟨wr.heap.size + 1, 0, none⟩ = some (.int .i64 i) := by simpa using HT.out.2.cell (off := 0) (.head _) rfl
            have hb1 : w3.cell? ⟨wr.heap.size + 1, 1, none⟩ = some (.int .i64 gn) := by simpa using HT.out.2.cell (off := 1) (.head _) rfl
            have hup := run_mapUpdate_m (P := Tryd.prog) handleKey Tryd.underlying39 Hmo.out (HT.out.2.at (b := w2.heap.size + 1) (o := .map (mEs kvH lo) co) (.tail _ (.tail _ (.tail _ (.tail _ (.head _)))))) ((i : Int), gn) (.bool true)
            have HT4 := Lib.hid ((HT.out.2.perm (perm_mo _ _ _ _ _ _)).setBlock (.map (mEs kvH (mput lo ((i : Int), gn) (.bool true) co)) (mclock lo ((i : Int), gn) co)))
            simp only [kvH] at hup
            generalize Go.ChangeMaps.setBlock w3 (w2.heap.size + 1) (.map (mEs kvH (mput lo ((i : Int), gn) (.bool true) co)) (mclock lo ((i : Int), gn) co)) = w4 at hup HT4
            have hd0 : w4.cell? ⟨wr.heap.size + 1, 0, none⟩ = some (.int .i64 i) := by simpa using HT4.out.cell (off := 0) (.tail _ (.head _)) rfl
            have hd1 : w4.cell? ⟨wr.heap.size + 1, 1, none⟩ = some (.int .i64 gn) := by simpa using HT4.out.cell (off := 1) (.tail _ (.head _)) rfl
            clear hl hO' hg0 hg1 HM HB
            go_wp2_with fail
            refine (free_ok HT4.out Hl.out ?hg0 ?hg1 ?hfl ?hn0 ?hn1).mono ?_
            case hg0 => have := (HA.out.1.ok.gens _ _ _ Hl.out).1; omega
            case hg1 => have := HA.out.1.gen _ _ _ Hl.out; omega
            case hfl => have := Hfr.out; omega
            case hn0 => exact Hn.out.1
            case hn1 => have := Hn.out.2; omega
            rintro e w5 ⟨rfl, hH5⟩
            have he0 : w5.cell? ⟨wr.heap.size + 1, 0, none⟩ = some (.int .i64 i) := by simpa using hH5.cell (off := 0) (.tail _ (.head _)) rfl
            have he1 : w5.cell? ⟨wr.heap.size + 1, 1, none⟩ = some (.int .i64 gn) := by simpa using hH5.cell (off := 1) (.tail _ (.head _)) rfl
            have HT5 := Lib.hid hH5
            clear hH5 hd0 hd1 hup
            go_wp2_with fail
            refine (free_none (g' := gn + 1) (l := false) (a := er 2) HT5.out ?hEv ?hi2 ?hno).mono ?_
            case hEv => exact (HE.out.mono (fun x h => .tail _ (.tail _ (.tail _ (.tail _ (.tail _ h)))))).v2
            case hi2 => simp [(List.getElem?_eq_some_iff.1 Hl.out).1]
            case hno => simp
            rintro e w6 ⟨rfl, hH6⟩
            have HT6 := Lib.hid hH6
            clear hH6 HT5 he0 he1
            have hEV : errV (er 2) = .iface 194 (.pointer (some (er 2))) := rfl
            rw [hEV]
            go_wp2_with fail
            refine (num_err HT6.out.SH (HE.out.mono (fun x h => .tail _ (.tail _ (.tail _ (.tail _ (.tail _ h)))))) 2 (by decide)).mono ?_
            rintro e w7 ⟨rfl, hb7⟩
            have HT7 := Lib.hid (HT6.out.below hb7)
            clear HT6 hb7
            obtain ⟨q', hq'⟩ : ∃ q' : Pl, q' = ⟨q.sl.set i (gn + 1, false), q.fr ++ [(i : Int)], q.n - 1⟩ := ⟨_, rfl⟩
            obtain ⟨lo', hlo'⟩ : ∃ l, l = mput lo ((i : Int), gn) (.bool true) co := ⟨_, rfl⟩
            obtain ⟨co', hco'⟩ : ∃ l, l = mclock lo ((i : Int), gn) co := ⟨_, rfl⟩
            obtain ⟨lg', hlg'⟩ : ∃ l, l = lg := ⟨_, rfl⟩
            obtain ⟨cg', hcg'⟩ : ∃ l, l = cg := ⟨_, rfl⟩
            have HZ : Hid (Once q' live' lg' lo' (k + 1) ∧ MOk lg' cg' ∧ MOk lo' co' ∧ rowOk 2 live'.length (flatE live') (some (g, cap1, sp1)) ∧ PlAt W w7 p q' ((w2.heap.size + 1, .map (mEs kvH lo') co') :: (g, .cells (flatE live' ++ sp1).toArray 42 (0, 0)) :: (w2.heap.size, .map (mEs kvH lg') cg') :: old W)) := by
              rw [hq', hlo', hco', hlg', hcg']
              exact ⟨HO'.out, Hmg.out, mput_ok Hmo.out, HT.out.1, HT7.out.sub (((List.sublist_cons_self _ _).trans (List.sublist_cons_self _ _)).cons_cons _)⟩
            clear hq' hlo' hco' hlg' hcg' HT7 HT4 HO' Hl HT Hmg Hmo Hfr Hn Hlj HA hb0 hb1 hEV
        case' inr =>
          have hB : ¬ x0 = 2 ∨ (x0 = 2 ∧ live.length = 0) := by omega
          have HT0 := Lib.hid HA.out.2.2.2.2
          rcases hB with hB | ⟨hB, hB0⟩
          case' inr =>
            have hB1 : decide ((0 : Int) < (live.length : Int)) = false := decide_eq_false (by omega)
            have hB2 : decide (0 < live.length) = false := decide_eq_false (by omega)
            have HB0 := Lib.hid hB0
            clear hB0
          all_goals
            (try subst hB)
            go_wp2_with fail
            have hEV : errV (er 1) = .iface 194 (.pointer (some (er 1))) := rfl
            refine (take_once (c := cg) (a := er 1) HA.out.1 (by omega) HT0.out (HE.out.mono (fun x h => .tail _ (.tail _ (.tail _ (.tail _ h))))).v1).mono ?_
            rintro e w3 (⟨hi, hg, q', rfl, hU, hT⟩ | ⟨rfl, hl, hO', hT⟩)
            case' inr =>
              have hne : live.length ≠ 0 := by omega
              first
                | exact absurd HB0.out hne
                | (have HT := Lib.hid (hT.tail.alloc (.cells #[.int .i64 0, .int .i64 0] 42))
                   have HO' := Lib.hid hO'
                   have Hmg := Lib.hid HA.out.2.1
                   have Hmo := Lib.hid HA.out.2.2.1
                   have HR := Lib.hid HA.out.2.2.2.1
                   have hl1 : ((live.length : Int) == 128) = true := by simp; omega
                   have hl2 : ((live.length : Int) != 128) = false := by simp; omega
                   clear hT hO' HT0 hne hl
                   rw [hEV]
                   go_wp2_with fail
                   clear HA hl1 hl2 hA hB
                   obtain ⟨w7, hw7⟩ : ∃ w', w' = w3.alloc (.cells #[.int .i64 0, .int .i64 0] 42) := ⟨_, rfl⟩
                   rw [← hw7] at HT ⊢
                   obtain ⟨q', rfl⟩ : ∃ x, x = q := ⟨_, rfl⟩
                   obtain ⟨live', rfl⟩ : ∃ x, x = live := ⟨_, rfl⟩
                   obtain ⟨g, rfl⟩ : ∃ x, x = r := ⟨_, rfl⟩
                   obtain ⟨cap1, rfl⟩ : ∃ x, x = cap := ⟨_, rfl⟩
                   obtain ⟨sp1, rfl⟩ : ∃ x, x = sp := ⟨_, rfl⟩
                   obtain ⟨lg', rfl⟩ : ∃ x, x = lg := ⟨_, rfl⟩
                   obtain ⟨lo', rfl⟩ : ∃ x, x = lo := ⟨_, rfl⟩
                   obtain ⟨cg', rfl⟩ : ∃ x, x = cg := ⟨_, rfl⟩
                   obtain ⟨co', rfl⟩ : ∃ x, x = co := ⟨_, rfl⟩
                   have HZ : Hid (Once q' live' lg' lo' (k + 1) ∧ MOk lg' cg' ∧ MOk lo' co' ∧ rowOk 2 live'.length (flatE live') (some (g, cap1, sp1)) ∧ PlAt W w7 p q' ((w2.heap.size + 1, .map (mEs kvH lo') co') :: (g, .cells (flatE live' ++ sp1).toArray 42 (0, 0)) :: (w2.heap.size, .map (mEs kvH lg') cg') :: old W)) :=
                     ⟨HO'.out, Hmg.out, Hmo.out, HR.out, HT.out.tail.perm (List.perm_middle (l₁ := [_, _]))⟩
                   clear HT HO' Hmg Hmo HR hw7)
            case' inl =>
              have HT := Lib.hid (hT.tail.alloc (.cells #[.int .i64 hi, .int .i64 hg] 42))
              have HU := Lib.hid hU
              have Hmg := Lib.hid HA.out.2.1
              have Hmo := Lib.hid HA.out.2.2.1
              have lk1 := run_lookup_m (P := Tryd.prog) handleKey Tryd.underlying39 zeroBool Hmg.out (HT.out.at (b := w2.heap.size) (o := .map (mEs kvH lg) cg) (.tail _ (.tail _ (.head _)))) (hi, hg) false
              have lk2 := run_lookup_m (P := Tryd.prog) handleKey Tryd.underlying39 zeroBool Hmo.out (HT.out.at (b := w2.heap.size + 1) (o := .map (mEs kvH lo) co) (.tail _ (.tail _ (.tail _ (.head _))))) (hi, hg) false
              have hup := run_mapUpdate_m (P := Tryd.prog) handleKey Tryd.underlying39 Hmg.out (HT.out.at (b := w2.heap.size) (o := .map (mEs kvH lg) cg) (.tail _ (.tail _ (.head _)))) (hi, hg) (.bool true)
              rw [HU.out.1] at lk1
              rw [HU.out.2.1] at lk2
              simp only [kvH, Option.getD_none, Bool.false_eq_true, if_false] at lk1 lk2 hup
              have HT4 := Lib.hid ((HT.out.perm (List.perm_middle (l₁ := [_, _]))).setBlock (.map (mEs kvH (mput lg (hi, hg) (.bool true) cg)) (mclock lg (hi, hg) cg)))
              generalize Go.ChangeMaps.setBlock (w3.alloc (.cells #[.int .i64 hi, .int .i64 hg] 42)) w2.heap.size (.map (mEs kvH (mput lg (hi, hg) (.bool true) cg)) (mclock lg (hi, hg) cg)) = w4 at hup HT4
              have hd0 : w4.cell? ⟨w3.heap.size, 0, none⟩ = some (.int .i64 hi) := HT4.out.cell (off := 0) (.tail _ (.head _)) rfl
              have hd1 : w4.cell? ⟨w3.heap.size, 1, none⟩ = some (.int .i64 hg) := HT4.out.cell (off := 1) (.tail _ (.head _)) rfl
              clear hT hU HT HT0
              have HB := Lib.hid (HT4.out.alloc (.cells #[.int .i64 hi, .int .i64 hg] 42))
              obtain ⟨M, hM, hS2⟩ := on_own2 HB.out
              have HM := Lib.hid (And.intro hM hS2)
              clear hM hS2
              have hcl : live.length ≤ 1000 := by
                have h1 := HA.out.1.len
                have h2 := HA.out.1.ok.n0
                omega
              obtain ⟨i0, hi1, hz0, hz1, hz2⟩ := info_parts infoHandle
              have HI := Lib.hid (And.intro hi1 (And.intro hz0 (And.intro hz1 hz2)))
              clear hi1 hz0 hz1 hz2
              have HR := Lib.hid HA.out.2.2.2.1
              try clear hB1 hB2 HB0
              try clear hA
              go_wp2_with (at_builtin; refine wpList_append_lies _ rfl (.tmp 87) (.tmp 89) 40 rfl 0 42 i0 _ 2 16 Tryd.underlying40 HI.out.1 HI.out.2.1 HI.out.2.2.1 HI.out.2.2.2 rfl (by decide) (rowV live.length (some (r, cap, sp))) live.length (flatE live) rfl (SH.ownsRow (L := M ++ _) HM.out.2 HR.out) _ 1 1 [.int .i64 hi, .int .i64 hg] rfl rfl (newsAt' HB.out.SH (by simp)) (by intro u hu; simp at hu; rcases hu with rfl | rfl <;> rfl) (by decide) (by unfold maxLen; omega) (by omega) (Nat.zero_le _) _ rfl ?_; intro g cap1 w7 hown hgrow hat hlt2; obtain ⟨sp1, ok1, hS1⟩ := SH.appended (st := some (r, cap, sp)) HM.out.2 hgrow rfl hown (hat.imp (fun h => h) (fun h => h.trans (by simp))); have HG := Lib.hid (And.intro ok1 hS1); clear hown hgrow hat hlt2 ok1 hS1; obtain ⟨live', hl'⟩ : ∃ l, l = live ++ [(hi, hg)] := ⟨_, rfl⟩; rw [show live.length + 1 = live'.length by rw [hl']; simp] at HG ⊢; obtain ⟨lo', hlo'⟩ : ∃ l, l = lo := ⟨_, rfl⟩; obtain ⟨co', hco'⟩ : ∃ l, l = co := ⟨_, rfl⟩; obtain ⟨lg', hlg'⟩ : ∃ l, l = mput lg (hi, hg) (.bool true) cg := ⟨_, rfl⟩; obtain ⟨cg', hcg'⟩ : ∃ l, l = mclock lg (hi, hg) cg := ⟨_, rfl⟩; have HZ : Hid (Once q' live' lg' lo' (k + 1) ∧ MOk lg' cg' ∧ MOk lo' co' ∧ rowOk 2 live'.length (flatE live') (some (g, cap1, sp1)) ∧ PlAt W w7 p q' ((w2.heap.size + 1, .map (mEs kvH lo') co') :: (g, .cells (flatE live' ++ sp1).toArray 42 (0, 0)) :: (w2.heap.size, .map (mEs kvH lg') cg') :: old W)) := once_hz hl' hlo' hco' hlg' hcg' HU.out.2.2 Hmg.out Hmo.out HM.out.1 HG.out; clear hl' hlo' hco' hlg' hcg' HG HM HB HI HR HT4 HU Hmg Hmo HA lk1 lk2 hup hd0 hd1)
        all_goals
          have hr := run_range_m (P := Tryd.prog) (kv := kvH) Tryd.underlying39 (HZ.out.2.2.2.2.at (.head _))
          have HA2 := Lib.hid (HZ.out.2.2.2.2.alloc (.mapIter (some (w2.heap.size + 1)) co' #[] co'))
          have hqn := HZ.out.1.len
          go_wp2_with fail
          try (rw [hr]; go_wp2_with fail)
          go_loopg [96] (leftN lo' #[]) (fun gm _ wr => ∃ seen, leftN lo' seen ≤ gm ∧ Hid (PlAt W wr p q' ((w7.heap.size, .mapIter (some (w2.heap.size + 1)) co' seen co') :: (w2.heap.size + 1, .map (mEs kvH lo') co') :: (g, .cells (flatE live' ++ sp1).toArray 42 (0, 0)) :: (w2.heap.size, .map (mEs kvH lg') cg') :: old W)))
          case atStart => exact ⟨#[], Nat.le_refl _, HA2.out⟩
          case round =>
            obtain ⟨seen, hgm, H⟩ := hrel
            rcases Own.next (P := Tryd.prog) (ty := 0) HZ.out.2.2.1 H.out with ⟨hnx, _⟩ | ⟨⟨⟨ex, ey⟩, ev, eb⟩, he, hs, w', hnx, hent, hO⟩
            · clear hr
              go_wp2_with fail
              refine (plCount_any H.out).mono ?_
              rintro e w8 ⟨rfl, rfl⟩
              rw [hqn]
              clear hnx
              go_wp2_with fail
              go_roundw
              case rel => exact ⟨k + 1, g, cap1, live', by go_num, rfl, by omega, ⟨⟨q', lg', cg', lo', co', sp1, HZ.out.1, HZ.out.2.1, HZ.out.2.2.1, HZ.out.2.2.2.1, H.out.tail.perm (perm_fin _ _ _ _)⟩⟩⟩
              case measure => simp [intOf]; omega
            · obtain ⟨i9, g9, l9, hi9, hs9, hd9⟩ := HZ.out.1.gone _ _ (mget_of_mem HZ.out.2.2.1.keys he)
              dsimp only at hi9 hd9 hs
              obtain rfl : ex = (i9 : Int) := hi9
              have hno : (decide (g9 = ey) && decide (l9 = true)) = false := by
                have : g9 ≠ ey := by omega
                simp [this]
              have HO := Lib.hid hO
              have hlt2 : leftN lo' (seen.push eb) < gk := Nat.lt_of_lt_of_le (leftN_push he hs) hgm
              simp only [kvH] at hnx hent
              clear hr hO H hd9
              go_wp2_with fail
              refine (lives_in (HO.out.alloc _) hs9).mono ?_
              rintro e w9 ⟨rfl, hb9⟩
              rw [hno]
              have HO9 := Lib.hid ((HO.out.alloc (.cells #[.int .i64 i9, .int .i64 ey] 42)).below hb9).tail
              clear hb9 HO hnx hent
              go_wp2_with fail
              go_roundg (leftN lo' (seen.push eb))
              case measure => exact hlt2
              case rel => exact ⟨_, Nat.le_refl _, HO9.out⟩
      · have hk2 : k = xs.length := by omega
        obtain ⟨q, lg, cg, lo, co, sp, hO, hmg, hmo, hrow, hH⟩ := H.out.ex
        have HF := Lib.hid hH
        clear hO hmg hmo hrow hH H
        go_wp2_with fail
        go_ret
        exact ⟨rfl, HF.out.toBelow (L := onL r sp live w2.heap.size (w2.heap.size + 1) cg co lg lo)⟩
end Go.Proofs.YteafeejdekihpaaDoor
