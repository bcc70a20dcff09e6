/- Package handles: what Take does. -/
import Derived.Test.YteafeejdekihpaaDoorPlC
namespace Go.Proofs.YteafeejdekihpaaDoor
open Go.RowKit

theorem infoSlot : (Tryd.prog.info? 129).map (fun i => (i.zero, i.size, i.bytes)) = some (some (.agg #[.int .i64 0, .bool false]), 2, 16) := by kernel_rfl
theorem newsAt' {W w : World} {L : List (Nat × Obj)} {b n : Nat} {news : List Value} {E : TypeId} (h : SH W w ((b, .cells news.toArray E) :: L)) (hb : b = n) : ∀ j u, news[j]? = some u → w.cell? ((⟨n, 0, none⟩ : Addr).add j) = some u := by
  subst hb
  intro j u hu
  have e : (⟨b, 0, none⟩ : Addr).add j = ⟨b, j, none⟩ := by unfold Addr.add; split <;> simp_all
  rw [e]
  exact h.cell (.head _) (by simpa using hu)

theorem perm_a {α : Type} (h p z : α) (A B L : List α) : (h :: p :: (A ++ (B ++ z :: L))).Perm (A ++ (p :: h :: (B ++ z :: L))) :=
  (List.Perm.swap _ _ _).trans ((List.perm_middle.trans (List.perm_middle.cons _)).symm)
theorem take_grown {W wB w2 : World} {L : List (Nat × Obj)} {p s h z g cap : Nat} {q : Pl} {st sf : St} {so : Obj}
    (hB : SH W wB ((s, so) :: (h, .cells #[.int .i64 q.sl.length, .int .i64 1] 42) :: (plL p q st sf ++ (z, Obj.cells #[.int .i64 0, .int .i64 0] 42) :: L))) (_ : s = s)
    (hown : w2.ownsRow 0 129 2 (.slice (some ⟨g, 0, none⟩) (q.sl.length + 1) cap) (q.sl.length + 1) (flatS q.sl ++ [.int .i64 1, .bool false]))
    (hgrow : wB.grownBy w2 (rowV q.sl.length st).ownBlock) (hat : (rowV q.sl.length st).ownBlock = some g ∨ g = wB.heap.size) (hph : p < h) :
    ∃ sp1, Hid (rowOk 2 (q.sl.length + 1) (flatS (q.sl ++ [(1, false)])) (some (g, cap, sp1)) ∧ SH W w2 (rowL 129 (flatS (q.sl ++ [(1, false)])) (some (g, cap, sp1)) ++ (p, Obj.cells #[rowV q.sl.length st, rowV q.fr.length sf, .int .i64 q.n] 126 (0, 0)) :: (h, .cells #[.int .i64 q.sl.length, .int .i64 1] 42) :: (rowL 3 (flatI q.fr) sf ++ ((z, Obj.cells #[.int .i64 0, .int .i64 0] 42) :: L)))) ∧
      w2.cell? ⟨p, 0, none⟩ = some (rowV q.sl.length st) ∧ w2.cell? ⟨p, 2, none⟩ = some (.int .i64 q.n) ∧ (∀ o, w2.frozen? ⟨p, o, none⟩ = false) ∧ (∀ o, w2.frozen? ⟨g, o, none⟩ = false) ∧
      w2.cell? ⟨h, 0, none⟩ = some (.int .i64 q.sl.length) ∧ w2.cell? ⟨h, 1, none⟩ = some (.int .i64 1) ∧ w2.cell? ⟨z, 0, none⟩ = some (.int .i64 0) ∧ w2.cell? ⟨z, 1, none⟩ = some (.int .i64 0) ∧ (∀ o, w2.frozen? ⟨z, o, none⟩ = false) ∧
      w2.cell? ⟨g, q.sl.length * 2 + 1, none⟩ = some (.bool false) ∧ g ≠ p ∧ g ≠ h ∧ g ≠ z ∧ p ≠ h ∧ p ≠ z ∧ p < w2.heap.size ∧ h < w2.heap.size ∧ z < w2.heap.size := by
  obtain ⟨sp1, ok1, hS1⟩ := SH.appended (L := (p, .cells #[rowV q.sl.length st, rowV q.fr.length sf, .int .i64 q.n] 126 (0, 0)) :: (h, .cells #[.int .i64 q.sl.length, .int .i64 1] 42) :: (rowL 3 (flatI q.fr) sf ++ ((z, Obj.cells #[.int .i64 0, .int .i64 0] 42) :: L)))
      (hB.tail.perm (by simpa [plL] using perm_a _ _ _ _ _ _)) hgrow rfl hown hat
  have e : flatS q.sl ++ [.int .i64 1, .bool false] = flatS (q.sl ++ [(1, false)]) := by simp [flatS, encS]
  rw [e] at ok1 hS1
  refine ⟨sp1, ⟨ok1, hS1⟩, hS1.cell (.tail _ (.head _)) rfl, hS1.cell (.tail _ (.head _)) rfl, fun o => hS1.free (.tail _ (.head _)), fun o => hS1.free (.head _), hS1.cell (.tail _ (.tail _ (.head _))) rfl, hS1.cell (.tail _ (.tail _ (.head _))) rfl, ?_, ?_, ?_, ?_, ?_, ?_, ?_, ?_, ?_, ?_, ?_, ?_⟩
  · exact hS1.cell (b := z) (c := #[.int .i64 0, .int .i64 0]) (E := 42) (fr := (0, 0)) (by simp) rfl
  · exact hS1.cell (b := z) (c := #[.int .i64 0, .int .i64 0]) (E := 42) (fr := (0, 0)) (by simp) rfl
  · exact fun o => hS1.free (b := z) (c := #[.int .i64 0, .int .i64 0]) (E := 42) (by simp)
  · exact hS1.cell (.head _) (flatS_get1 (x := (1, false)) (by simp))
  · exact hS1.ne (.head _)
  · exact hS1.ne (.tail _ (.head _))
  · exact hS1.ne (b' := z) (o' := Obj.cells #[.int .i64 0, .int .i64 0] 42) (by simp)
  · omega
  · exact hS1.tail.ne (b' := z) (o' := Obj.cells #[.int .i64 0, .int .i64 0] 42) (by simp)
  · exact hS1.lt (.tail _ (.head _))
  · exact hS1.lt (.tail _ (.tail _ (.head _)))
  · exact hS1.lt (b := z) (o := Obj.cells #[.int .i64 0, .int .i64 0] 42) (by simp)

theorem setIf2 {α : Type} (a b c x : α) : #[a, b, c].setIfInBounds 2 x = #[a, b, x] := rfl
theorem setIf0 {α : Type} (a b c x : α) : #[a, b, c].setIfInBounds 0 x = #[x, b, c] := rfl
theorem setIf1 {α : Type} (a b c x : α) : #[a, b, c].setIfInBounds 1 x = #[a, x, c] := rfl
theorem perm_z {α : Type} (g p h z : α) (B L : List α) : (p :: g :: h :: (B ++ z :: L)).Perm (z :: (h :: p :: g :: (B ++ L))) := by
  have h1 : (p :: g :: h :: (B ++ z :: L)).Perm (z :: p :: g :: h :: (B ++ L)) := List.perm_middle (l₁ := p :: g :: h :: B)
  have h2 : (p :: g :: h :: (B ++ L)).Perm (h :: p :: g :: (B ++ L)) := List.perm_middle (l₁ := [p, g])
  exact h1.trans (h2.cons z)
theorem take_close {W w2 : World} {L : List (Nat × Obj)} {p h z g i : Nat} {sl : List (Int × Bool)} {sp : List Value} {R : List (Nat × Obj)} {so : Obj} {x : Int × Bool} (s' v v' v0 v1 m m' : Value)
    (hS : SH W w2 ((g, Obj.cells (flatS sl ++ sp).toArray 129 (0, 0)) :: (p, Obj.cells #[v, v', m] 126 (0, 0)) :: (h, so) :: (R ++ ((z, Obj.cells #[.int .i64 0, .int .i64 0] 42) :: L))))
    (hx : sl[i]? = some x) : SH W (((((w2.setCell ⟨p, 0, none⟩ s').setCell ⟨g, i * 2 + 1, none⟩ (.bool true)).setCell ⟨p, 2, none⟩ m').setCell ⟨z, 0, none⟩ v0).setCell ⟨z, 1, none⟩ v1).drew
      ((z, Obj.cells #[v0, v1] 42) :: (h, so) :: (p, Obj.cells #[s', v', m'] 126 (0, 0)) :: (g, Obj.cells (flatS (sl.set i (x.1, true)) ++ sp).toArray 129 (0, 0)) :: (R ++ L)) := by
  have h1 := (hS.perm (List.Perm.swap _ _ _)).setCell 0 s'
  rw [setIf0] at h1
  have h2 := (h1.perm (List.Perm.swap _ _ _)).setCell (i * 2 + 1) (.bool true)
  rw [flatS_set1 hx true] at h2
  have h3 := (h2.perm (List.Perm.swap _ _ _)).setCell 2 m'
  rw [setIf2] at h3
  have h4 := ((h3.perm (perm_z _ _ _ _ _ _)).setCell 0 v0).setCell 1 v1
  exact h4.drew

set_option maxHeartbeats 3200000 in
set_option maxRecDepth 100000 in
theorem take_new {W w : World} {L : List (Nat × Obj)} {p : Nat} {q : Pl} (hH : PlAt W w p q L) (hf : q.fr = []) (hn : q.sl.length < 128) (hq0 : 0 ≤ q.n) (hq1 : q.n ≤ 1000) :
    Calls Tryd.prog 19 #[.pointer (some ⟨p, 0, none⟩)] w fun e w' => e = .returned (.tuple #[.agg #[.int .i64 q.sl.length, .int .i64 1], .nilIface]) ∧ PlAt W w' p ⟨q.sl ++ [(1, true)], [], q.n + 1⟩ L := by
  have HH := Lib.hid hH
  clear hH
  obtain ⟨i0, hi, hz0, hz1, hz2⟩ := info_parts infoSlot
  have HI := Lib.hid (And.intro hi (And.intro hz0 (And.intro hz1 hz2)))
  clear hi hz0 hz1 hz2
  go_enter Tryd.func19, Tryd.ntmps19
  go_wp2_with fail
  refine (next_new (HH.out.alloc _) hf hn).mono ?_
  rintro e w1 ⟨rfl, hb⟩
  have HH1 := Lib.hid ((HH.out.alloc (.cells #[.int .i64 0, .int .i64 0] 42)).below hb)
  clear HH hb
  obtain ⟨_, ⟨st, sf, ok, okf, rfl⟩, hS⟩ := HH1.out
  obtain ⟨ao, cp, hv⟩ := rowV_form' ok
  have c0 : w1.cell? ⟨p, 0, none⟩ = some (rowV q.sl.length st) := hS.cell (.head _) rfl
  have c2 : w1.cell? ⟨p, 2, none⟩ = some (.int .i64 q.n) := hS.cell (.head _) rfl
  have s0 : p < w1.heap.size := hS.lt (.head _)
  have s1 : w.heap.size < w1.heap.size := hS.lt (.tail _ (List.mem_append_right _ (.head _)))
  rw [hv] at c0
  have HS := Lib.hid (And.intro ok (And.intro okf (And.intro hv hS)))
  clear ok okf hv hS HH1
  go_wp2_with fail
  go_region
  rw [← HS.out.2.2.1] at c0
  have HA := Lib.hid (HS.out.2.2.2.alloc (.cells #[.int .i64 q.sl.length, .int .i64 1] 42))
  have HB := Lib.hid ((HA.out.alloc (.cells #[.int .i64 1, .bool false] 129)).drew)
  go_wp2_with (at_builtin; refine wpList_append_lies _ rfl (.tmp 27) (.tmp 29) 52 rfl 0 129 i0 _ 2 16 Tryd.underlying52 HI.out.1 HI.out.2.1 HI.out.2.2.1 HI.out.2.2.2 rfl (by decide) (rowV q.sl.length st) q.sl.length (flatS q.sl) rfl (SH.ownsRow (L := rowL 3 (flatI q.fr) sf ++ ((w.heap.size, Obj.cells #[.int .i64 0, .int .i64 0] 42) :: L)) (by have := HB.out.tail.tail.tail; simpa [plL] using this) HS.out.1) _ 1 1 [.int .i64 1, .bool false] rfl rfl (newsAt' HB.out (by simp)) (by intro u hu; simp at hu; rcases hu with rfl | rfl <;> rfl) (by decide) (by unfold maxLen; omega) (by omega) (Nat.zero_le _) _ rfl ?_; intro g cap w2 hown hgrow hat hlt; obtain ⟨sp1, HS1, hp0, hp2, hpf, hgf, hh0, hh1, hz0, hz1, hzf, hgc, n0, n1, n2, n3, n4, hlp, hlh, hlz⟩ := take_grown HB.out (by simp) hown hgrow (hat.imp (fun h => h) (fun h => h.trans (by simp))) s0; clear hown hgrow hat)
  go_region
  go_wp2_with fail
  have HF := take_close (i := q.sl.length) (x := (1, false)) (.slice (some ⟨g, 0, none⟩) (q.sl.length + 1) cap) _ _ (.int .i64 q.sl.length) (.int .i64 1) _ (.int .i64 (q.n + 1)) HS1.out.2 (by simp)
  have q0 : _ = some (Value.int .i64 q.sl.length) := HF.cell (off := 0) (.head _) rfl
  have q1 : _ = some (Value.int .i64 1) := HF.cell (off := 1) (.head _) rfl
  refine bodyPost_ret (v := .tuple #[.agg #[.int .i64 q.sl.length, .int .i64 1], .nilIface]) (by simp [results, Tryd.results19, go_sem, q0, q1]) rfl ⟨rfl, ?_⟩
  have hset : (q.sl ++ [(1, false)]).set q.sl.length (1, true) = q.sl ++ [(1, true)] := by simp
  rw [hset] at HF
  refine ⟨_, ⟨some (g, cap, sp1), sf, ?_, ?_, rfl⟩, ?_⟩
  · have := HS1.out.1
    simp only [rowOk, flatS_len, List.length_append, List.length_cons, List.length_nil] at this ⊢
    exact this
  · have := HS.out.2.1
    rw [hf] at this
    exact this
  · have h5 := HF.tail.tail
    rw [hf] at h5
    simpa [plL, rowL, rowV] using h5
end Go.Proofs.YteafeejdekihpaaDoor
