/- Package handles: what Take does with a free place, and when all are taken. -/
import Derived.Test.YteafeejdekihpaaDoorPlD
namespace Go.Proofs.YteafeejdekihpaaDoor
open Go.RowKit

theorem flatI_split (l : List Int) (n : Nat) : flatI l = flatI (l.take n) ++ flatI (l.drop n) := by
  unfold flatI
  rw [← List.flatMap_append, List.take_append_drop]

set_option maxHeartbeats 1600000 in
theorem take_full {W w : World} {L : List (Nat × Obj)} {p : Nat} {q : Pl} {a : Addr} (hH : PlAt W w p q L) (hE : Var L 0 (errV a)) (hf : q.fr = []) (hn : q.sl.length = 128) :
    Calls Tryd.prog 19 #[.pointer (some ⟨p, 0, none⟩)] w fun e w' => e = .returned (.tuple #[.agg #[.int .i64 0, .int .i64 0], errV a]) ∧ PlAt W w' p q L := by
  have HH := Lib.hid hH
  clear hH
  go_enter Tryd.func19, Tryd.ntmps19
  go_wp2_with fail
  refine (next_full (HH.out.alloc _) (hE.mono (fun _ h => .tail _ h)) hf hn).mono ?_
  rintro e w1 ⟨rfl, hb⟩
  have H1 := (HH.out.alloc (.cells #[.int .i64 0, .int .i64 0] 42)).below hb
  have f0 : w1.cell? ⟨w.heap.size, 0, none⟩ = some (.int .i64 0) := H1.cell (.head _) rfl
  have f1 : w1.cell? ⟨w.heap.size, 1, none⟩ = some (.int .i64 0) := H1.cell (.head _) rfl
  have ff := fun o => H1.free (off := o) (.head _)
  have fl := H1.lt (.head _)
  have HH1 := Lib.hid H1
  clear H1 hb HH hE
  simp only [errV] at *
  go_wp2_with fail
  have H3 := ((HH1.out.setCell 0 (.int .i64 0)).setCell 1 (.int .i64 0)).alloc (.cells #[.int .i64 0, .int .i64 0] 42)
  have q0 : _ = some (Value.int .i64 0) := H3.cell (off := 0) (.tail _ (.head _)) rfl
  have q1 : _ = some (Value.int .i64 0) := H3.cell (off := 1) (.tail _ (.head _)) rfl
  exact bodyPost_ret (v := .tuple #[.agg #[.int .i64 0, .int .i64 0], .iface 194 (.pointer (some a))]) (by simp [results, Tryd.results19, go_sem, q0, q1]) rfl ⟨rfl, H3.tail.tail⟩

theorem take_close' {W w2 : World} {L : List (Nat × Obj)} {p z g i : Nat} {sl : List (Int × Bool)} {sp : List Value} {R : List (Nat × Obj)} {x : Int × Bool} (s' v v' v0 v1 m m' : Value)
    (hS : SH W w2 ((p, Obj.cells #[v', v, m] 126 (0, 0)) :: (g, Obj.cells (flatS sl ++ sp).toArray 129 (0, 0)) :: (R ++ ((z, Obj.cells #[.int .i64 0, .int .i64 0] 42) :: L))))
    (hx : sl[i]? = some x) : SH W (((((w2.setCell ⟨p, 1, none⟩ s').setCell ⟨g, i * 2 + 1, none⟩ (.bool true)).setCell ⟨p, 2, none⟩ m').setCell ⟨z, 0, none⟩ v0).setCell ⟨z, 1, none⟩ v1)
      ((z, Obj.cells #[v0, v1] 42) :: (p, Obj.cells #[v', s', m'] 126 (0, 0)) :: (g, Obj.cells (flatS (sl.set i (x.1, true)) ++ sp).toArray 129 (0, 0)) :: (R ++ L)) := by
  have h1 := hS.setCell 1 s'
  rw [setIf1] at h1
  have h2 := (h1.perm (List.Perm.swap _ _ _)).setCell (i * 2 + 1) (.bool true)
  rw [flatS_set1 hx true] at h2
  have h3 := (h2.perm (List.Perm.swap _ _ _)).setCell 2 m'
  rw [setIf2] at h3
  exact ((h3.perm (List.perm_middle (l₁ := _ :: _ :: R))).setCell 0 v0).setCell 1 v1

set_option maxHeartbeats 3200000 in
set_option maxRecDepth 100000 in
theorem take_free {W w : World} {L : List (Nat × Obj)} {p : Nat} {q : Pl} {fs : List Int} {i : Nat} {gen : Int} {l : Bool} (hH : PlAt W w p q L) (hf : q.fr = fs ++ [(i : Int)]) (hi : q.sl[i]? = some (gen, l)) (hfn : fs.length ≤ 1000) (hq0 : 0 ≤ q.n) (hq1 : q.n ≤ 1000) :
    Calls Tryd.prog 19 #[.pointer (some ⟨p, 0, none⟩)] w fun e w' => e = .returned (.tuple #[.agg #[.int .i64 i, .int .i64 gen], .nilIface]) ∧ PlAt W w' p ⟨q.sl.set i (gen, true), fs, q.n + 1⟩ L := by
  have HH := Lib.hid hH
  clear hH
  have hlt : i < q.sl.length := (List.getElem?_eq_some_iff.1 hi).1
  have hfl : q.fr.length = fs.length + 1 := by rw [hf]; simp
  have Hi := Lib.hid (And.intro hi (And.intro hf hfl))
  go_enter Tryd.func19, Tryd.ntmps19
  go_wp2_with fail
  refine (next_free (HH.out.alloc _) hf hi hfn).mono ?_
  rintro e w1 ⟨rfl, hb⟩
  have HH1 := Lib.hid ((HH.out.alloc (.cells #[.int .i64 0, .int .i64 0] 42)).below hb)
  clear HH hb hf hi
  obtain ⟨_, ⟨st, sf, ok, okf, rfl⟩, hS⟩ := HH1.out
  cases st with
  | none => rw [ok.1] at hlt; omega
  | some t =>
    cases sf with
    | none => rw [okf.1] at hfl; omega
    | some u =>
      obtain ⟨g, cap, sp⟩ := t
      obtain ⟨r, cap', sp'⟩ := u
      have hle' := okf.2.2.1
      rw [hfl] at hle'
      have HS := Lib.hid (And.intro ok (And.intro okf hS))
      have c0 : w1.cell? ⟨p, 0, none⟩ = some (.slice (some ⟨g, 0, none⟩) q.sl.length cap) := hS.cell (.head _) rfl
      have c1 : w1.cell? ⟨p, 1, none⟩ = some (.slice (some ⟨r, 0, none⟩) (fs.length + 1) cap') := hS.cell (.head _) (by simp [rowV, hfl])
      have c2 : w1.cell? ⟨p, 2, none⟩ = some (.int .i64 q.n) := hS.cell (.head _) rfl
      have hgc : w1.cell? ⟨g, i * 2 + 1, none⟩ = some (.bool l) := hS.cell (.tail _ (.head _)) (flatS_get1 Hi.out.1)
      have z0 : w1.cell? ⟨w.heap.size, 0, none⟩ = some (.int .i64 0) := hS.cell (.tail _ (.tail _ (.tail _ (.head _)))) rfl
      have z1 : w1.cell? ⟨w.heap.size, 1, none⟩ = some (.int .i64 0) := hS.cell (.tail _ (.tail _ (.tail _ (.head _)))) rfl
      have hzf : ∀ o, w1.frozen? ⟨w.heap.size, o, none⟩ = false := fun o => hS.free (.tail _ (.tail _ (.tail _ (.head _))))
      have hpf : ∀ o, w1.frozen? ⟨p, o, none⟩ = false := fun o => hS.free (.head _)
      have hgf : ∀ o, w1.frozen? ⟨g, o, none⟩ = false := fun o => hS.free (.tail _ (.head _))
      have s0 : p < w1.heap.size := hS.lt (.head _)
      have s1 : g < w1.heap.size := hS.lt (.tail _ (.head _))
      have s2 : w.heap.size < w1.heap.size := hS.lt (.tail _ (.tail _ (.tail _ (.head _))))
      have n0 : g ≠ p := (hS.ne (.head _)).symm
      have n1 : p ≠ w.heap.size := hS.ne (.tail _ (.tail _ (.head _)))
      have n2 : g ≠ w.heap.size := hS.tail.ne (.tail _ (.head _))
      have hine : ((i : Int) == (q.sl.length : Int)) = false := beq_eq_false_iff_ne.2 (by omega)
      clear ok okf hS HH1
      go_wp2_with fail
      go_region
      go_wp2_with fail
      go_region
      go_wp2_with fail
      go_region
      go_wp2_with fail
      have HF := ((take_close' (R := [_]) (.slice (some ⟨r, 0, none⟩) fs.length cap') _ _ (.int .i64 i) (.int .i64 gen) _ (.int .i64 (q.n + 1)) HS.out.2.2 Hi.out.1).alloc (.cells #[.int .i64 i, .int .i64 gen] 42)).drew.drew.drew
      have q0 : _ = some (Value.int .i64 i) := HF.cell (off := 0) (.tail _ (.head _)) rfl
      have q1 : _ = some (Value.int .i64 gen) := HF.cell (off := 1) (.tail _ (.head _)) rfl
      refine bodyPost_ret (v := .tuple #[.agg #[.int .i64 i, .int .i64 gen], .nilIface]) (by simp [results, Tryd.results19, go_sem, q0, q1]) rfl ⟨rfl, ?_⟩
      have ht : q.fr.take fs.length = fs ∧ q.fr.drop fs.length = [(i : Int)] := by rw [Hi.out.2.1]; simp
      have e : flatI q.fr ++ sp' = flatI fs ++ (flatI [(i : Int)] ++ sp') := by rw [flatI_split q.fr fs.length, ht.1, ht.2, List.append_assoc]
      refine ⟨_, ⟨some (g, cap, sp), some (r, cap', flatI [(i : Int)] ++ sp'), ?_, ?_, rfl⟩, ?_⟩
      · have := HS.out.1
        simp only [rowOk, flatS_len, List.length_set, List.length_append] at this ⊢
        exact this
      · have := HS.out.2.1
        obtain ⟨_, b1, b2, b3⟩ := this
        rw [e] at b1
        exact ⟨by rw [flatI_len, Nat.mul_one], b1, Nat.le_of_succ_le hle', b3⟩
      · have h5 := HF.tail.tail
        rw [e] at h5
        simpa [plL, rowL, rowV] using h5
end Go.Proofs.YteafeejdekihpaaDoor
