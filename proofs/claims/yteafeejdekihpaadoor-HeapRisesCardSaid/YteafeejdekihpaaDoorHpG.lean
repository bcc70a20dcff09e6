/- The law HeapRises: the chapter's example. -/
import Derived.Test.YteafeejdekihpaaDoorHpF
import Derived.Test.YteafeejdekihpaaDoorHpM
namespace Go.Proofs.YteafeejdekihpaaDoor
open Go.RowKit

theorem alive_list : ([((3 : Int), (1 : Int)), (2, 9), (2, 4)]).foldl pushL [] = [(2, 4), (3, 1), (2, 9)] := by
  simp [pushL, upL, ahead, swp]
theorem alive_sl {L : List (Nat × Obj)} {n : Nat} : Sl encE 2 ((n, .cells #[.int .i64 3, .int .i64 1, .int .i64 2, .int .i64 9, .int .i64 2, .int .i64 4] 31) :: L) (.slice (some ⟨n, 0, none⟩) 3 3) [(3, 1), (2, 9), (2, 4)] := by
  refine ⟨_, _, rfl, Nat.le_refl _, .inr ⟨n, 0, _, _, _, rfl, .head _, ?_⟩⟩
  intro i x hx j u hu
  match i, hx with
  | 0, hx => simp at hx; subst hx; match j, hu with | 0, hu => simpa [encE] using hu | 1, hu => simpa [encE] using hu
  | 1, hx => simp at hx; subst hx; match j, hu with | 0, hu => simpa [encE] using hu | 1, hu => simpa [encE] using hu
  | 2, hx => simp at hx; subst hx; match j, hu with | 0, hu => simpa [encE] using hu | 1, hu => simpa [encE] using hu

set_option maxHeartbeats 1600000 in
theorem alive10 (w : World) : Calls Tryd.prog 10 #[] w fun e w' => e = .returned (.bool true) ∧ Below w.heap.size w w' := by
  have hq : Tryd.prog.stoodInHeld 31 = false := by kernel_rfl
  go_enter Tryd.func10, Tryd.ntmps10
  go_wp2_with fail
  refine (heapNew_any (SH.start w)).mono ?_
  rintro e w1 ⟨p, rfl, hH1⟩
  have HH1 := Lib.hid hH1
  clear hH1
  go_wp2_with fail
  refine (push_ok (es := []) (xs := [(3, 1), (2, 9), (2, 4)]) (HH1.out.alloc _) alive_sl (by decide)).mono ?_
  rintro e w2 ⟨rfl, hH2⟩
  rw [alive_list] at hH2
  have HH2 := Lib.hid hH2
  clear hH2
  go_wp2_with fail
  refine (pop_some HH2.out (by decide)).mono ?_
  rintro e w3 ⟨rfl, hH3⟩
  have HH3 := Lib.hid hH3
  clear hH3
  go_wp2_with fail
  go_ret
  exact ⟨rfl, (HH3.out.alloc _).toBelow (L := [_, _])⟩

theorem zeroInt (w : World) : (zeroValue 3).run Tryd.prog w = .ok (.int .i64 0) w := by kernel_rfl
/-- how often an entry stands in a list -/
def cnt (l : List (Int × Int)) (x : Int × Int) : Int := (l.count x : Int)
/-- a map that tells how often each entry stands in a list -/
def Counts (l : MList (Int × Int)) (xs : List (Int × Int)) : Prop := ∀ k, (mget l k).getD (.int .i64 0) = .int .i64 (cnt xs k)

theorem cnt_snoc {xs : List (Int × Int)} {k : Nat} {x : Int × Int} (h : xs[k]? = some x) (y : Int × Int) : cnt (xs.take (k + 1)) y = if y = x then cnt (xs.take k) y + 1 else cnt (xs.take k) y := by
  unfold cnt
  rw [List.take_add_one, h, List.count_append]
  by_cases e : y = x
  · subst e; simp
  · have : (x == y) = false := by simpa using Ne.symm e
    simp [e, List.count_cons, this]
theorem cnt_bd (xs : List (Int × Int)) (x : Int × Int) : 0 ≤ cnt xs x ∧ cnt xs x ≤ xs.length := by
  unfold cnt
  have := List.count_le_length (a := x) (l := xs)
  omega

set_option maxHeartbeats 3200000 in
set_option maxRecDepth 100000 in
theorem rises_any {W : World} {xs : List (Int × Int)} {v en : Value} (hx : Sl encE 2 (old W) v xs) (hE : Var (old W) 1 en) (hen : ∃ T a, en = .iface T a) :
    Calls Tryd.prog 3 #[v] W fun e w' => e = .returned (.bool true) ∧ Below W.heap.size W w' := by
  have hmm := @run_makeMap Tryd.prog
  have HX := Lib.hid hx
  obtain ⟨a, c, rfl, hc, _⟩ := hx
  by_cases hbig : 300 < xs.length
  · have hbig2 : (300 : Int) < (xs.length : Int) := by omega
    go_enter Tryd.func3, Tryd.ntmps3
    go_wp2_with fail
    refine (alive10 _).mono ?_
    rintro e w1 ⟨rfl, hb⟩
    go_wp2_with fail
    go_ret
    exact ⟨rfl, hb⟩
  · have hn : xs.length ≤ 300 := by omega
    clear hbig
    go_enter Tryd.func3, Tryd.ntmps3
    go_wp2_with fail
    refine (alive10 _).mono ?_
    rintro e w1 ⟨rfl, hb⟩
    have HS1 := Lib.hid ((SH.start W).below hb)
    clear hb
    go_wp2_with fail
    refine (heapNew_any HS1.out).mono ?_
    rintro e w2 ⟨p, rfl, hH2⟩
    have HH2 := Lib.hid hH2
    clear hH2
    go_wp2_with fail
    refine (push_ok (xs := xs) HH2.out HX.out (by simp; omega)).mono ?_
    rintro e w3 ⟨rfl, hH3⟩
    have HH3 := Lib.hid (And.intro (pushAll_heap xs [] heap_nil) (And.intro (pushAll_perm xs []) hH3))
    generalize xs.foldl pushL [] = es at HH3
    clear hH3 HS1 HH2
    go_wp2_with fail
    go_loopw [28] (fun t wr => ∃ k : Nat, t = .int .i64 k ∧ k ≤ xs.length ∧ Hid (∃ l clock, MOk l clock ∧ Counts l (xs.take k) ∧ HpAt W wr p es ((w3.heap.size, .map (mEs kvE l) clock) :: old W))) (fun t _ => xs.length - (intOf t).toNat)
    case atStart => exact ⟨0, rfl, Nat.zero_le _, [], 0, mok_nil, fun k => by simp [mget, cnt], HH3.out.2.2.alloc _⟩
    case round =>
      obtain ⟨k, rfl, hk, H⟩ := hrel
      by_cases hlt : k < xs.length
      · obtain ⟨x, hxk⟩ : ∃ x, xs[k]? = some x := ⟨xs[k], by simp [hlt]⟩
        obtain ⟨l, clock, hok, hcn, hH⟩ := H.out
        obtain ⟨a', c', he, _, hr⟩ := HX.out
        simp only [Value.slice.injEq, true_and] at he
        obtain ⟨rfl, rfl⟩ := he
        rcases hr with h0 | ⟨b, off, cc, E, fr, rfl, hm, hcell⟩
        · rw [h0] at hlt; simp at hlt
        have hc0 : wr.cell? ⟨b, off + k * 2, none⟩ = some (.int .i64 x.1) := hH.cell (.tail _ hm) (hcell k _ hxk 0 _ rfl)
        have hc1 : wr.cell? ⟨b, off + k * 2 + 1, none⟩ = some (.int .i64 x.2) := hH.cell (.tail _ hm) (hcell k _ hxk 1 _ rfl)
        obtain ⟨C, hC⟩ : ∃ C, cnt (xs.take k) x = C := ⟨_, rfl⟩
        have hCb : 0 ≤ C ∧ C ≤ 300 := by
          rw [← hC]
          have := cnt_bd (xs.take k) x
          have h2 : (xs.take k).length ≤ k := List.length_take_le _ _
          omega
        have hA := ((hH.alloc (.cells #[.int .i64 x.1, .int .i64 x.2] 31)).drew).perm (List.Perm.swap _ _ _)
        obtain ⟨st, we, wf, r1, r2, r3, r4, hF⟩ := hA.entry entryKey Tryd.underlying29 zeroInt hok x (.int .i64 (C + 1))
        rw [hcn x, hC] at r1 r2 r3
        simp only [kvE, goInt] at r1 r2 r3 r4
        have hC0 := hCb.1
        have hC1 := hCb.2
        have HF : Hid (∃ l clock, MOk l clock ∧ Counts l (xs.take (k + 1)) ∧ HpAt W wf p es ((w3.heap.size, .map (mEs kvE l) clock) :: old W)) := by
          refine ⟨_, _, mput_ok hok, fun y => ?_, (hF.perm (List.Perm.swap _ _ _)).tail⟩
          rw [mput_get, cnt_snoc hxk]
          by_cases e : y = x
          · subst e; simp [hC]
          · rw [if_neg e, if_neg e]; exact hcn y
        clear hF hA hC hCb hcn hok hH H hcell hxk hm
        go_wp2_with fail
        go_region
        go_wp2_with fail
        go_roundw
        case rel => exact ⟨k + 1, by go_num, by omega, HF⟩
        case measure => simp [intOf]; omega
      · have hk2 : k = xs.length := by omega
        have H4 : Hid (IsHeap es ∧ es.length = xs.length ∧ ∃ l clock, MOk l clock ∧ Counts l es ∧ HpAt W wr p es ((w3.heap.size, .map (mEs kvE l) clock) :: old W)) := by
          obtain ⟨l, clock, hok, hcn, hH⟩ := H.out
          rw [hk2, List.take_length] at hcn
          have hp := HH3.out.2.1
          rw [List.nil_append] at hp
          refine ⟨HH3.out.1, hp.length_eq, l, clock, hok, fun y => ?_, hH⟩
          rw [hcn y]; unfold cnt; rw [hp.count_eq]
        clear H hk2 HH3
        obtain ⟨mb, hmb⟩ : ∃ mb, mb = w3.heap.size := ⟨_, rfl⟩
        rw [← hmb] at H4 ⊢
        have Hmb := Lib.hid hmb
        clear hmb
        obtain ⟨w4, rfl⟩ : ∃ w4 : World, w4 = wr := ⟨_, rfl⟩
        go_wp2_with fail
        go_loopw [42] (fun t wr => ∃ k : Nat, t = .int .i64 k ∧ k ≤ xs.length ∧ Hid (∃ (fs : List (Int × Int)) (last : Int × Int) (l : MList (Int × Int)) (clock : Nat), IsHeap fs ∧ fs.length + k = xs.length ∧ (0 < k → ∀ y ∈ fs, le last y) ∧
          MOk l clock ∧ Counts l fs ∧ HpAt W wr p fs ((w4.heap.size, .cells #[.int .i64 last.1, .int .i64 last.2] 31) :: (mb, .map (mEs kvE l) clock) :: old W))) (fun t _ => xs.length - (intOf t).toNat)
        case atStart =>
          obtain ⟨h1, h2, l, clock, hok, hcn, hH⟩ := H4.out
          exact ⟨0, rfl, Nat.zero_le _, es, (0, 0), l, clock, h1, by omega, fun h => absurd h (by omega), hok, hcn, hH.alloc _⟩
        case round =>
          obtain ⟨k, rfl, hk, H⟩ := hrel
          clear H4
          by_cases hlt : k < xs.length
          · obtain ⟨fs, last, l, clock, hhp, hfl, hle, hok, hcn, hH⟩ := H.out
            cases fs with
            | nil => simp at hfl; omega
            | cons x fs =>
              simp only [List.length_cons] at hfl
              have hq : Tryd.prog.stoodInHeld 31 = false := by kernel_rfl
              have HH := Lib.hid hH
              have Hle := Lib.hid hle
              have Hcn := Lib.hid hcn
              have Hhp := Lib.hid hhp
              have Hok := Lib.hid hok
              have Hfl := Lib.hid hfl
              clear hH hle hcn hhp hok hfl H
              go_wp2_with fail
              refine (pop_some HH.out (by have := Hfl.out; omega)).mono ?_
              rintro e w5 ⟨rfl, hH5⟩
              have l0 : w5.cell? ⟨w4.heap.size, 0, none⟩ = some (Value.int .i64 last.1) := hH5.cell (.head _) rfl
              have l1 : w5.cell? ⟨w4.heap.size, 1, none⟩ = some (Value.int .i64 last.2) := hH5.cell (.head _) rfl
              have lw : w4.heap.size < w5.heap.size := hH5.lt (.head _)
              have hlx : k ≠ 0 → last.1 < x.1 ∨ last.1 = x.1 ∧ last.2 ≤ x.2 := fun h0 => (le_iff _ _).1 (Hle.out (by omega) x (.head _))
              have hA := ((hH5.alloc (.cells #[.int .i64 x.1, .int .i64 x.2] 31)).drew).perm (List.perm_middle (l₁ := [_, _]))
              obtain ⟨C, hC⟩ : ∃ C, cnt (x :: fs) x = C := ⟨_, rfl⟩
              have hC0 : 0 ≤ C := by rw [← hC]; exact (cnt_bd _ _).1
              have hC1 : C ≤ 301 := by
                rw [← hC]
                have := (cnt_bd (x :: fs) x).2
                have h2 := Hfl.out
                simp only [List.length_cons] at this
                omega
              obtain ⟨st, we, wf, r1, r2, r3, r4, hF⟩ := hA.entry entryKey Tryd.underlying29 zeroInt Hok.out x (.int .i64 (C - 1))
              rw [Hcn.out x, hC] at r1 r2 r3
              simp only [kvE, goInt] at r1 r2 r3 r4
              have e0 : wf.cell? ⟨w5.heap.size, 0, none⟩ = some (Value.int .i64 x.1) := hF.cell (.tail _ (.head _)) rfl
              have e1 : wf.cell? ⟨w5.heap.size, 1, none⟩ = some (Value.int .i64 x.2) := hF.cell (.tail _ (.head _)) rfl
              have n0 : wf.cell? ⟨w4.heap.size, 0, none⟩ = some (Value.int .i64 last.1) := hF.cell (.tail _ (.tail _ (.head _))) rfl
              have n1 : wf.cell? ⟨w4.heap.size, 1, none⟩ = some (Value.int .i64 last.2) := hF.cell (.tail _ (.tail _ (.head _))) rfl
              have nf : ∀ o, wf.frozen? ⟨w4.heap.size, o, none⟩ = false := fun o => hF.free (.tail _ (.tail _ (.head _)))
              have HN : Hid (∃ (fs' : List (Int × Int)) (last' : Int × Int) (l : MList (Int × Int)) (clock : Nat), IsHeap fs' ∧ fs'.length + (k + 1) = xs.length ∧ (0 < k + 1 → ∀ y ∈ fs', le last' y) ∧
                  MOk l clock ∧ Counts l fs' ∧ HpAt W ((wf.setCell ⟨w4.heap.size, 0, none⟩ (.int .i64 x.1)).setCell ⟨w4.heap.size, 1, none⟩ (.int .i64 x.2)) p fs' ((w4.heap.size, .cells #[.int .i64 last'.1, .int .i64 last'.2] 31) :: (mb, .map (mEs kvE l) clock) :: old W)) := by
                refine ⟨popL x fs, x, _, _, pop_heap Hhp.out, by rw [popL_len]; have := Hfl.out; omega, fun _ y hy => pop_least Hhp.out y ((pop_perm x fs).mem_iff.1 hy), mput_ok (k := x) (v := .int .i64 (C - 1)) Hok.out, ?_, ?_⟩
                · intro y
                  rw [mput_get]
                  have hcy := Hcn.out y
                  have hpc : cnt (popL x fs) y = cnt fs y := by unfold cnt; rw [(pop_perm x fs).count_eq]
                  by_cases e : y = x
                  · subst e
                    rw [if_pos rfl, hpc, ← hC]
                    simp [cnt]
                  · rw [if_neg e, hcy, hpc]
                    have : (x == y) = false := by simpa using Ne.symm e
                    simp [cnt, List.count_cons, this]
                · have h1 := hF.perm (List.perm_middle (l₁ := [_, _]))
                  have h2 := ((h1.setCell 0 (.int .i64 x.1)).setCell 1 (.int .i64 x.2)).sub (M := (w4.heap.size, .cells #[.int .i64 x.1, .int .i64 x.2] 31) :: (mb, .map (mEs kvE (mput l x (.int .i64 (C - 1)) clock)) (mclock l x clock)) :: old W)
                    ((List.Sublist.cons_cons _ (List.Sublist.cons_cons _ (List.sublist_cons_self _ _))))
                  exact h2
              have hls : k = 0 ∨ (0 < k ∧ last.1 < x.1) ∨ (0 < k ∧ last.1 ≤ x.1 ∧ x.1 ≤ last.1 ∧ last.2 ≤ x.2) := by
                by_cases h0 : k = 0
                · exact .inl h0
                · rcases hlx h0 with h | ⟨h, h'⟩
                  · exact .inr (.inl ⟨by omega, h⟩)
                  · exact .inr (.inr ⟨by omega, by omega, by omega, h'⟩)
              clear hlx hF hA hH5 hC HH Hle Hcn Hhp Hok Hfl hE hen
              rcases hls with hk0 | ⟨hk0, ha⟩ | ⟨hk0, ha, hb, hc⟩
              · have hk1 : (k : Int) ≤ 0 := by omega
                have Hk0 := Lib.hid hk0
                clear hk0
                go_wp2_with fail
                go_region
                go_wp2_with fail
                go_roundw
                case rel => exact ⟨k + 1, by go_num, by omega, HN⟩
                case measure => simp [intOf]; omega
              · go_wp2_with fail
                go_region
                go_wp2_with fail
                go_roundw
                case rel => exact ⟨k + 1, by go_num, by omega, HN⟩
                case measure => simp [intOf]; omega
              · obtain ⟨lk, lv⟩ := last
                obtain ⟨xk, xv⟩ := x
                dsimp only at ha hb hc r1 r2 r3 r4 e0 e1 n0 n1 l0 l1 HN
                obtain rfl : lk = xk := by omega
                clear ha hb
                go_wp2_with fail
                go_region
                go_wp2_with fail
                go_roundw
                case rel => exact ⟨k + 1, by go_num, by omega, HN⟩
                case measure => simp [intOf]; omega
          · have H5 : Hid (∃ (last : Int × Int) (l : MList (Int × Int)) (clock : Nat), MOk l clock ∧ (∀ e ∈ l, e.2.1 = .int .i64 0) ∧ HpAt W wr p [] ((w4.heap.size, .cells #[.int .i64 last.1, .int .i64 last.2] 31) :: (mb, .map (mEs kvE l) clock) :: old W)) := by
              obtain ⟨fs, last, l, clock, _, hfl, _, hok, hcn, hH⟩ := H.out
              have h0 : fs = [] := List.eq_nil_of_length_eq_zero (by omega)
              subst h0
              refine ⟨last, l, clock, hok, fun e he => ?_, hH⟩
              have h1 := mget_of_mem hok.keys he
              have h2 := hcn e.1
              rw [h1] at h2
              simpa [cnt] using h2
            obtain ⟨last, l, clock, hok, hz, hH⟩ := H5.out
            have hr := run_range_m (P := Tryd.prog) (kv := kvE) Tryd.underlying29 (hH.at (.tail _ (.head _)))
            have HA := Lib.hid (And.intro hok (And.intro hz ((hH.alloc (.mapIter (some mb) clock #[] clock)).perm ((List.Perm.swap _ _ _).cons _))))
            clear H H5 hok hz hH
            obtain ⟨w6, rfl⟩ : ∃ w6 : World, w6 = wr := ⟨_, rfl⟩
            go_wp2_with fail
            go_loopg [87] (leftN l #[]) (fun g _ wr => ∃ seen, leftN l seen ≤ g ∧ Hid (HpAt W wr p [] ((w6.heap.size, .mapIter (some mb) clock seen clock) :: (mb, .map (mEs kvE l) clock) :: (w4.heap.size, .cells #[.int .i64 last.1, .int .i64 last.2] 31) :: old W)))
            case atStart => exact ⟨#[], Nat.le_refl _, HA.out.2.2⟩
            case round =>
              obtain ⟨seen, hg, H⟩ := hrel
              rcases Own.next (P := Tryd.prog) (ty := 0) HA.out.1 H.out with ⟨hnx, _⟩ | ⟨e, he, hs, w', hnx, hent, hO⟩
              · clear hr
                go_wp2_with fail
                obtain ⟨T, ae, rfl⟩ := hen
                refine (pop_none (en := .iface T ae) H.out (hE.mono (fun _ h => .tail _ (.tail _ (.tail _ h)))) ⟨_, _, rfl⟩).mono ?_
                rintro e w7 ⟨rfl, hH7⟩
                have HH7 := Lib.hid hH7
                clear hH7 hnx
                go_wp2_with fail
                refine (heapLen_any (HH7.out.alloc _)).mono ?_
                rintro e w8 ⟨rfl, rfl⟩
                go_wp2_with fail
                go_ret
                exact ⟨rfl, (HH7.out.alloc _).toBelow (L := [_, _, _, _])⟩
              · rw [HA.out.2.1 e he] at hnx hent
                have HO := Lib.hid hO
                have hlt2 : leftN l (seen.push e.2.2) < gk := Nat.lt_of_lt_of_le (leftN_push he hs) hg
                clear hr hO H
                go_wp2_with fail
                go_roundg (leftN l (seen.push e.2.2))
                case measure => exact hlt2
                case rel => exact ⟨_, Nat.le_refl _, HO⟩
end Go.Proofs.YteafeejdekihpaaDoor
