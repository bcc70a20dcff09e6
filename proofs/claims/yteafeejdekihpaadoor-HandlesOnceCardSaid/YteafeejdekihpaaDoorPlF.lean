/- Package handles: what Free does. -/
import Derived.Test.YteafeejdekihpaaDoorPlE
namespace Go.Proofs.YteafeejdekihpaaDoor
open Go.RowKit

set_option maxHeartbeats 1600000 in
theorem free_none {W w : World} {L : List (Nat × Obj)} {p : Nat} {q : Pl} {a : Addr} {i : Nat} {gen g' : Int} {l : Bool} (hH : PlAt W w p q L) (hE : Var L 1 (errV a)) (hi : q.sl[i]? = some (g', l)) (hno : (decide (g' = gen) && decide (l = true)) = false) :
    Calls Tryd.prog 17 #[.pointer (some ⟨p, 0, none⟩), .agg #[.int .i64 i, .int .i64 gen]] w fun e w' => e = .returned (errV a) ∧ PlAt W w' p q L := by
  have HH := Lib.hid hH
  clear hH
  go_enter Tryd.func17, Tryd.ntmps17
  go_wp2_with fail
  refine (lives_in (HH.out.alloc _) hi).mono ?_
  rintro e w1 ⟨rfl, hb⟩
  rw [hno]
  have H1 := (HH.out.alloc (.cells #[.int .i64 i, .int .i64 gen] 42)).below hb
  have he : w1.cell? ⟨1, 0, none⟩ = some (errV a) := (hE.mono (fun _ h => .tail _ h)).cell H1.SH
  have HH1 := Lib.hid H1.tail
  clear H1 hb HH hE hno
  simp only [errV] at *
  go_wp2_with fail
  go_ret
  exact ⟨rfl, HH1.out⟩

theorem free_close {W w1 : World} {p g i : Nat} {sl : List (Int × Bool)} {sp : List Value} {R : List (Nat × Obj)} {gen : Int} (v v' m m' : Value) (gen' : Int)
    (hS : SH W w1 ((p, Obj.cells #[v, v', m] 126 (0, 0)) :: (g, Obj.cells (flatS sl ++ sp).toArray 129 (0, 0)) :: R))
    (hx : sl[i]? = some (gen, true)) : SH W (((w1.setCell ⟨g, i * 2 + 1, none⟩ (.bool false)).setCell ⟨p, 2, none⟩ m').setCell ⟨g, i * 2, none⟩ (.int .i64 gen')).drew
      ((p, Obj.cells #[v, v', m'] 126 (0, 0)) :: (g, Obj.cells (flatS (sl.set i (gen', false)) ++ sp).toArray 129 (0, 0)) :: R) := by
  have h1 := (hS.perm (List.Perm.swap _ _ _)).setCell (i * 2 + 1) (.bool false)
  rw [flatS_set1 hx false] at h1
  have h2 := (h1.perm (List.Perm.swap _ _ _)).setCell 2 m'
  rw [setIf2] at h2
  have h3 := (h2.perm (List.Perm.swap _ _ _)).setCell (i * 2) (.int .i64 gen')
  have hlt := (List.getElem?_eq_some_iff.1 hx).1
  rw [flatS_set0 (x := (gen, false)) (by simp [hlt]) gen', List.set_set] at h3
  exact (h3.perm (List.Perm.swap _ _ _)).drew
theorem free_owns {W w3 : World} {b p : Nat} {fr : List Int} {sf : St} {bo po go : Obj} {g : Nat} {L : List (Nat × Obj)} (hB : SH W w3 ((b, bo) :: (p, po) :: (g, go) :: (rowL 3 (flatI fr) sf ++ L))) (ok : rowOk 1 fr.length (flatI fr) sf) :
    w3.ownsRow 0 3 1 (rowV fr.length sf) fr.length (flatI fr) := SH.ownsRow (L := L) hB.tail.tail.tail ok
/-- what is known behind the append of a place -/
theorem free_grown {W w3 w4 : World} {L : List (Nat × Obj)} {p b r cap' : Nat} {fr : List Int} {i : Int} {sf : St} {bo : Obj} {R : List (Nat × Obj)} {v m : Value}
    (hB : SH W w3 ((b, bo) :: (p, Obj.cells #[v, rowV fr.length sf, m] 126 (0, 0)) :: (R ++ (rowL 3 (flatI fr) sf ++ L))))
    (hown : w4.ownsRow 0 3 1 (.slice (some ⟨r, 0, none⟩) (fr.length + 1) cap') (fr.length + 1) (flatI fr ++ [.int .i64 i]))
    (hgrow : w3.grownBy w4 (rowV fr.length sf).ownBlock) (hat : (rowV fr.length sf).ownBlock = some r ∨ r = w3.heap.size) :
    ∃ sp', Hid (rowOk 1 (fr.length + 1) (flatI (fr ++ [i])) (some (r, cap', sp')) ∧ SH W w4 (rowL 3 (flatI (fr ++ [i])) (some (r, cap', sp')) ++ (p, Obj.cells #[v, rowV fr.length sf, m] 126 (0, 0)) :: (R ++ L))) ∧
      w4.cell? ⟨p, 1, none⟩ = some (rowV fr.length sf) ∧ (∀ o, w4.frozen? ⟨p, o, none⟩ = false) := by
  have hp : ((p, Obj.cells #[v, rowV fr.length sf, m] 126 (0, 0)) :: (R ++ (rowL 3 (flatI fr) sf ++ L))).Perm (rowL 3 (flatI fr) sf ++ ((p, Obj.cells #[v, rowV fr.length sf, m] 126 (0, 0)) :: (R ++ L))) := by
    have e : R ++ (rowL 3 (flatI fr) sf ++ L) = (R ++ rowL 3 (flatI fr) sf) ++ L := by simp
    rw [e]
    have h1 : ((R ++ rowL 3 (flatI fr) sf) ++ L).Perm ((rowL 3 (flatI fr) sf ++ R) ++ L) := List.perm_append_comm.append_right L
    refine (h1.cons _).trans ?_
    rw [List.append_assoc]
    exact List.perm_middle.symm
  obtain ⟨sp', ok1, hS1⟩ := SH.appended (L := (p, Obj.cells #[v, rowV fr.length sf, m] 126 (0, 0)) :: (R ++ L)) (hB.tail.perm hp) hgrow rfl hown hat
  have e : flatI fr ++ [.int .i64 i] = flatI (fr ++ [i]) := by simp [flatI, encI]
  rw [e] at ok1 hS1
  exact ⟨sp', ⟨ok1, hS1⟩, hS1.cell (.tail _ (.head _)) rfl, fun o => hS1.free (.tail _ (.head _))⟩

set_option maxHeartbeats 3200000 in
set_option maxRecDepth 100000 in
theorem free_ok {W w : World} {L : List (Nat × Obj)} {p : Nat} {q : Pl} {i : Nat} {gen : Int} (hH : PlAt W w p q L) (hi : q.sl[i]? = some (gen, true)) (hg0 : 0 ≤ gen) (hg : gen < 1073741824) (hfn : q.fr.length ≤ 1000) (hq0 : 0 ≤ q.n) (hq1 : q.n ≤ 1000) :
    Calls Tryd.prog 17 #[.pointer (some ⟨p, 0, none⟩), .agg #[.int .i64 i, .int .i64 gen]] w fun e w' => e = .returned .nilIface ∧ PlAt W w' p ⟨q.sl.set i (gen + 1, false), q.fr ++ [(i : Int)], q.n - 1⟩ L := by
  have HH := Lib.hid hH
  clear hH
  have hlt : i < q.sl.length := (List.getElem?_eq_some_iff.1 hi).1
  have Hi := Lib.hid hi
  obtain ⟨i0, hi1, hz0, hz1, hz2⟩ := info_parts (show (Tryd.prog.info? 3).map (fun i => (i.zero, i.size, i.bytes)) = some (some (.int .i64 0), 1, 8) by kernel_rfl)
  have HI := Lib.hid (And.intro hi1 (And.intro hz0 (And.intro hz1 hz2)))
  clear hi1 hz0 hz1 hz2
  go_enter Tryd.func17, Tryd.ntmps17
  go_wp2_with fail
  refine (lives_in (HH.out.alloc _) hi).mono ?_
  rintro e w1 ⟨rfl, hb⟩
  rw [show (decide (gen = gen) && decide (true = true)) = true by simp]
  have HH1 := Lib.hid ((HH.out.alloc (.cells #[.int .i64 i, .int .i64 gen] 42)).below hb)
  clear HH hb hi
  obtain ⟨_, ⟨st, sf, ok, okf, rfl⟩, hS⟩ := HH1.out
  cases st with
  | none => rw [ok.1] at hlt; omega
  | some t =>
    obtain ⟨g, cap, sp⟩ := t
    have c0 : w1.cell? ⟨p, 0, none⟩ = some (.slice (some ⟨g, 0, none⟩) q.sl.length cap) := hS.cell (.head _) rfl
    have c1 : w1.cell? ⟨p, 1, none⟩ = some (rowV q.fr.length sf) := hS.cell (.head _) rfl
    have c2 : w1.cell? ⟨p, 2, none⟩ = some (.int .i64 q.n) := hS.cell (.head _) rfl
    have hgc : w1.cell? ⟨g, i * 2 + 1, none⟩ = some (.bool true) := hS.cell (.tail _ (.head _)) (flatS_get1 Hi.out)
    have hgd : w1.cell? ⟨g, i * 2, none⟩ = some (.int .i64 gen) := hS.cell (.tail _ (.head _)) (flatS_get0 Hi.out)
    have hbm : (w.heap.size, Obj.cells #[.int .i64 i, .int .i64 gen] 42 (0, 0)) ∈ plL p q (some (g, cap, sp)) sf ++ (w.heap.size, Obj.cells #[.int .i64 i, .int .i64 gen] 42) :: L := by simp
    have b0 : w1.cell? ⟨w.heap.size, 0, none⟩ = some (.int .i64 i) := hS.cell hbm rfl
    have hpf : ∀ o, w1.frozen? ⟨p, o, none⟩ = false := fun o => hS.free (.head _)
    have hgf : ∀ o, w1.frozen? ⟨g, o, none⟩ = false := fun o => hS.free (.tail _ (.head _))
    have s0 : p < w1.heap.size := hS.lt (.head _)
    have s1 : g < w1.heap.size := hS.lt (.tail _ (.head _))
    have s2 : w.heap.size < w1.heap.size := hS.lt hbm
    have n0 : g ≠ p := (hS.ne (.head _)).symm
    have n1 : p ≠ w.heap.size := hS.ne (b' := w.heap.size) (o' := Obj.cells #[.int .i64 i, .int .i64 gen] 42 (0, 0)) (by simp)
    have n2 : g ≠ w.heap.size := hS.tail.ne (b' := w.heap.size) (o' := Obj.cells #[.int .i64 i, .int .i64 gen] 42 (0, 0)) (by simp)
    have HS := Lib.hid (And.intro ok (And.intro okf hS))
    clear ok okf hS HH1 hbm
    go_wp2_with fail
    go_region
    go_wp2_with fail
    have HF := free_close _ _ _ (.int .i64 (q.n - 1)) (gen + 1) HS.out.2.2 Hi.out
    generalize (((w1.setCell ⟨g, i * 2 + 1, none⟩ (.bool false)).setCell ⟨p, 2, none⟩ (.int .i64 (q.n - 1))).setCell ⟨g, i * 2, none⟩ (.int .i64 (gen + 1))).drew = w3 at HF ⊢
    clear c0 c1 c2 hgc hgd b0 hpf hgf s0 s1 s2 n0 n1 n2
    have c1 : w3.cell? ⟨p, 1, none⟩ = some (rowV q.fr.length sf) := HF.cell (.head _) rfl
    have b0 : w3.cell? ⟨w.heap.size, 0, none⟩ = some (.int .i64 i) := HF.cell (.tail _ (.tail _ (List.mem_append_right _ (.head _)))) rfl
    have s0 : p < w3.heap.size := HF.lt (.head _)
    have s2 : w.heap.size < w3.heap.size := HF.lt (.tail _ (.tail _ (List.mem_append_right _ (.head _))))
    have HB := Lib.hid ((HF.alloc (.cells #[.int .i64 i] 3)).drew)
    clear HF
    go_region_law ((refine step_append_lies _ rfl _ _ 53 rfl 0 3 i0 _ 1 8 Tryd.underlying53 HI.out.1 HI.out.2.1 HI.out.2.2.1 HI.out.2.2.2 rfl (by decide) _ q.fr.length (flatI q.fr) rfl (free_owns HB.out HS.out.2.1) _ 1 1 [.int .i64 i] rfl rfl (newsAt' HB.out (by simp)) (by intro u hu; simp at hu; subst hu; rfl) (by decide) (by unfold maxLen; omega) (by omega) (Nat.zero_le _) _ rfl ?_); intro r cap' w4 hown hgrow hat hlt2; obtain ⟨sp', HG, hp1, hpf⟩ := free_grown (R := [_]) HB.out hown hgrow (hat.imp (fun h => h) (fun h => h.trans (by simp))); clear hown hgrow hat)
    all_goals
      have hF := ((HG.out.2.perm (List.Perm.swap _ _ _)).setCell 1 (.slice (some ⟨r, 0, none⟩) (q.fr.length + 1) cap'))
      have HF := Lib.hid hF
      clear hF
      go_wp2_with fail
      go_ret
      refine ⟨rfl, _, ⟨some (g, cap, sp), some (r, cap', sp'), ?_, ?_, rfl⟩, ?_⟩
      · have := HS.out.1
        simp only [rowOk, flatS_len, List.length_set, List.length_append] at this ⊢
        exact this
      · have := HG.out.1
        simp only [rowOk, List.length_append, List.length_cons, List.length_nil] at this ⊢
        exact this
      · have h5 := HF.out
        rw [setIf1] at h5
        have h6 := (h5.perm ((List.Perm.swap _ _ _).cons _)).sub (M := (p, Obj.cells #[rowV q.sl.length (some (g, cap, sp)), .slice (some ⟨r, 0, none⟩) (q.fr.length + 1) cap', .int .i64 (q.n - 1)] 126 (0, 0)) :: (g, Obj.cells (flatS (q.sl.set i (gen + 1, false)) ++ sp).toArray 129 (0, 0)) :: (r, Obj.cells (flatI (q.fr ++ [(i : Int)]) ++ sp').toArray 3 (0, 0)) :: L) (((List.sublist_cons_self _ _).cons_cons _ |>.cons_cons _) |>.cons_cons _)
        simpa [plL, rowL, rowV] using h6

set_option maxHeartbeats 3200000 in
set_option maxRecDepth 100000 in
theorem free_old {W w : World} {L : List (Nat × Obj)} {p : Nat} {q : Pl} {i : Nat} {gen : Int} (hH : PlAt W w p q L) (hi : q.sl[i]? = some (gen, true)) (hg : 1073741824 ≤ gen) (hq0 : 0 ≤ q.n) (hq1 : q.n ≤ 1000) :
    Calls Tryd.prog 17 #[.pointer (some ⟨p, 0, none⟩), .agg #[.int .i64 i, .int .i64 gen]] w fun e w' => e = .returned .nilIface ∧ PlAt W w' p ⟨q.sl.set i (gen, false), q.fr, q.n - 1⟩ L := by
  have HH := Lib.hid hH
  clear hH
  have hlt : i < q.sl.length := (List.getElem?_eq_some_iff.1 hi).1
  have Hi := Lib.hid hi
  go_enter Tryd.func17, Tryd.ntmps17
  go_wp2_with fail
  refine (lives_in (HH.out.alloc _) hi).mono ?_
  rintro e w1 ⟨rfl, hb⟩
  rw [show (decide (gen = gen) && decide (true = true)) = true by simp]
  have HH1 := Lib.hid ((HH.out.alloc (.cells #[.int .i64 i, .int .i64 gen] 42)).below hb)
  clear HH hb hi
  obtain ⟨_, ⟨st, sf, ok, okf, rfl⟩, hS⟩ := HH1.out
  cases st with
  | none => rw [ok.1] at hlt; omega
  | some t =>
    obtain ⟨g, cap, sp⟩ := t
    have c0 : w1.cell? ⟨p, 0, none⟩ = some (.slice (some ⟨g, 0, none⟩) q.sl.length cap) := hS.cell (.head _) rfl
    have c2 : w1.cell? ⟨p, 2, none⟩ = some (.int .i64 q.n) := hS.cell (.head _) rfl
    have hgc : w1.cell? ⟨g, i * 2 + 1, none⟩ = some (.bool true) := hS.cell (.tail _ (.head _)) (flatS_get1 Hi.out)
    have hgd : w1.cell? ⟨g, i * 2, none⟩ = some (.int .i64 gen) := hS.cell (.tail _ (.head _)) (flatS_get0 Hi.out)
    have hbm : (w.heap.size, Obj.cells #[.int .i64 i, .int .i64 gen] 42 (0, 0)) ∈ plL p q (some (g, cap, sp)) sf ++ (w.heap.size, Obj.cells #[.int .i64 i, .int .i64 gen] 42) :: L := by simp
    have b0 : w1.cell? ⟨w.heap.size, 0, none⟩ = some (.int .i64 i) := hS.cell hbm rfl
    have hpf : ∀ o, w1.frozen? ⟨p, o, none⟩ = false := fun o => hS.free (.head _)
    have hgf : ∀ o, w1.frozen? ⟨g, o, none⟩ = false := fun o => hS.free (.tail _ (.head _))
    have s0 : p < w1.heap.size := hS.lt (.head _)
    have s1 : g < w1.heap.size := hS.lt (.tail _ (.head _))
    have s2 : w.heap.size < w1.heap.size := hS.lt hbm
    have n0 : g ≠ p := (hS.ne (.head _)).symm
    have HS := Lib.hid (And.intro ok (And.intro okf hS))
    clear ok okf hS HH1 hbm
    go_wp2_with fail
    go_region
    go_wp2_with fail
    have h1 := (HS.out.2.2.perm (List.Perm.swap _ _ _)).setCell (i * 2 + 1) (.bool false)
    rw [flatS_set1 Hi.out false] at h1
    have h2 := ((h1.perm (List.Perm.swap _ _ _)).setCell 2 (.int .i64 (q.n - 1))).drew
    rw [setIf2] at h2
    have HF := Lib.hid h2
    clear h1 h2
    go_ret
    refine ⟨rfl, _, ⟨some (g, cap, sp), sf, ?_, HS.out.2.1, rfl⟩, ?_⟩
    · have := HS.out.1
      simp only [rowOk, flatS_len, List.length_set, List.length_append] at this ⊢
      exact this
    · have h5 := HF.out
      refine SH.tail (x := (w.heap.size, Obj.cells #[.int .i64 i, .int .i64 gen] 42)) (SH.perm (L := plL p ⟨q.sl.set i (gen, false), q.fr, q.n - 1⟩ (some (g, cap, sp)) sf ++ ((w.heap.size, Obj.cells #[.int .i64 i, .int .i64 gen] 42) :: L)) ?_ List.perm_middle)
      simpa [plL, rowL, rowV] using h5
end Go.Proofs.YteafeejdekihpaaDoor
