/- The laws on jumps: the chapter's example. -/
import Derived.Test.YtmabanabdoalaaaDoorSi
import Derived.Test.YtmabanabdoalaaaDoorSf
namespace Go.Proofs.YtmabanabdoalaaaDoor
open Go.RowKit

/-- the example's ground -/
def exG : Gd := ofG ⟨3, 3, 1, 0, 0⟩ []
theorem exG_eq : exG = ⟨3, 3, [true, true, true, true, true, true, true, true, true]⟩ := by rfl
theorem ex_ok : GdOk exG := ofG_ok (by decide) []
theorem ex_jump : dirs8.map (fun d => exG.jump 0 d 8) = [-1, 8, -1, -1, -1, -1, -1, -1] := by decide
theorem upL_one (x : Int × Int) : upL [x] 0 = [x] := by rw [upL]; simp
theorem downL_nil : downL [] 0 = [] := by rw [downL]; simp
theorem push_nil (x : Int × Int) : pushL [] x = [x] := by simp [pushL, upL_one]
theorem pop_one (x : Int × Int) : popL x [] = [] := by simp [popL, downL_nil]
theorem ex_j0 : exG.jump 0 0 8 = -1 := by decide
theorem ex_j1 : exG.jump 0 1 8 = 8 := by decide
theorem ex_j2 : exG.jump 0 2 8 = -1 := by decide
theorem ex_j3 : exG.jump 0 3 8 = -1 := by decide
theorem ex_j4 : exG.jump 0 4 8 = -1 := by decide
theorem ex_j5 : exG.jump 0 5 8 = -1 := by decide
theorem ex_j6 : exG.jump 0 6 8 = -1 := by decide
theorem ex_j7 : exG.jump 0 7 8 = -1 := by decide
theorem ex_g : exG.guess 0 8 = 28 := by decide
theorem ex_g8 : exG.guess 8 8 = 0 := by decide
theorem ex_s1 : reachF exG 8 (fresh 9) 0 (-1) 0 = ⟨[(28, 0)], [0, -1, -1, -1, -1, -1, -1, -1, -1], [-1, -1, -1, -1, -1, -1, -1, -1, -1]⟩ := by
  unfold reachF
  rw [if_neg (by decide)]
  simp only [fresh, push_nil, ex_g]
  rfl
theorem ex_s2 : reachF exG 8 ⟨[], [0, -1, -1, -1, -1, -1, -1, -1, -1], [-1, -1, -1, -1, -1, -1, -1, -1, -1]⟩ 8 0 28 = ⟨[(28, 8)], [0, -1, -1, -1, -1, -1, -1, -1, 28], [-1, -1, -1, -1, -1, -1, -1, -1, 0]⟩ := by
  unfold reachF
  rw [if_neg (by decide)]
  simp only [push_nil, ex_g8]
  rfl
theorem ex_d : dirsF exG 8 0 dirs8 ⟨[], [0, -1, -1, -1, -1, -1, -1, -1, -1], [-1, -1, -1, -1, -1, -1, -1, -1, -1]⟩ = some ⟨[(28, 8)], [0, -1, -1, -1, -1, -1, -1, -1, 28], [-1, -1, -1, -1, -1, -1, -1, -1, 0]⟩ := by
  unfold dirs8
  rw [dirsF, if_pos ex_j0, dirsF, if_neg (by rw [ex_j1]; decide), ex_j1, ex_g]
  rw [if_pos (by decide)]
  rw [show ([0, -1, -1, -1, -1, -1, -1, -1, -1] : List Int).getD (0 : Int).toNat 0 + 28 = 28 from rfl, ex_s2]
  rw [dirsF, if_pos ex_j2, dirsF, if_pos ex_j3, dirsF, if_pos ex_j4, dirsF, if_pos ex_j5, dirsF, if_pos ex_j6, dirsF, if_pos ex_j7, dirsF]
theorem ex_run : runF exG 8 3 (reachF exG 8 (fresh 9) 0 (-1) 0) = some ⟨[], [0, -1, -1, -1, -1, -1, -1, -1, 28], [-1, -1, -1, -1, -1, -1, -1, -1, 0]⟩ := by
  rw [ex_s1]
  unfold runF
  simp only [pop_one]
  rw [if_neg (by decide), if_pos (by decide), ex_d]
  simp only [Option.bind_some]
  unfold runF
  simp only [pop_one]
  rw [if_pos trivial]
theorem ex_chain : chainF [-1, -1, -1, -1, -1, -1, -1, -1, 0] 4 8 = some [8, 0] := by decide
theorem ex_exp : expFrom exG 0 [8] = some [4, 8] := by decide

theorem sl_nil {L : List (Nat × Obj)} : Sl encI 1 L (.slice none 0 0) [] := ⟨none, 0, rfl, Nat.le_refl _, .inl rfl⟩
theorem sl_lit {L : List (Nat × Obj)} {b : Nat} (zs : List Int) : Sl encI 1 ((b, .cells (flatI zs).toArray 3) :: L) (.slice (some ⟨b, 0, none⟩) zs.length zs.length) zs := by
  refine ⟨_, _, rfl, Nat.le_refl _, .inr ⟨b, 0, _, _, _, rfl, .head _, fun i x hx j u hu => ?_⟩⟩
  simp only [encI, Nat.zero_add, Nat.mul_one] at hu ⊢
  have hj : j = 0 := by
    have := (List.getElem?_eq_some_iff.1 hu).1
    simp at this; exact this
  subst hj
  simp at hu
  subst hu
  exact flatI_get' hx
set_option maxHeartbeats 1600000 in
theorem alive18 (w : World) : Calls Tryd.prog 9 #[] w fun e w' => e = .returned (.bool true) ∧ Below w.heap.size w w' := by
  have HS := Lib.hid (SH.start w)
  go_enter Tryd.func9, Tryd.ntmps9
  go_wp2_with fail
  refine (of_ok (a := ⟨3, 3, 1, 0, 0⟩) HS.out (by decide) sl_nil (by simp) (by simp)).mono ?_
  rintro e w1 ⟨p, r, rfl, hS1⟩
  have HS1 : Hid (SH w w1 (gdL p r exG ++ old w)) := hS1
  clear hS1
  go_wp2_with fail
  have hsr := search_ok (s := 0) (t := 8) (c := 28) (N := 3) (N2 := 4) ex_ok HS1.out gdIn_L (by decide) (by decide) (show runF exG 8 3 (reachF exG 8 (fresh exG.fr.length) 0 (-1) 0) = _ from ex_run) rfl (by decide) ex_chain ⟨rfl, rfl, rfl, by simp⟩ (by omega)
  refine hsr.mono ?_
  rintro e w2 ⟨v, rfl, r2, cap2, sp2, rfl, hok2, hS2⟩
  clear hsr
  simp only [List.reverse_cons, List.reverse_nil, List.nil_append, List.cons_append, List.length_cons, List.length_nil] at hok2 hS2 ⊢
  have HS2 := Lib.hid (And.intro hok2 hS2)
  have HG2 := Lib.hid ((gdIn_L (p := p) (r := r) (g := exG) (L := old w)).mono (M := rowL 3 (flatI [0, 8]) (some (r2, cap2, sp2)) ++ (gdL p r exG ++ old w)) (fun x h => List.mem_append_right _ h))
  have HX2 := Lib.hid (sl_of_row (zs := [0, 8]) (L := gdL p r exG ++ old w) hok2)
  clear hok2 hS2
  go_wp2_with fail
  refine (expand_ok ex_ok HS2.out.2 HG2.out HX2.out (by simp) (by decide) ex_exp).mono ?_
  rintro e w3 ⟨u, rfl, r3, cap3, sp3, rfl, hok3, hS3⟩
  have HS3 := Lib.hid (And.intro hok3 hS3)
  have HX3 := Lib.hid (HX2.out.mono (M := rowL 3 (flatI [0, 4, 8]) (some (r3, cap3, sp3)) ++ (rowL 3 (flatI [0, 8]) (some (r2, cap2, sp2)) ++ (gdL p r exG ++ old w))) (fun x h => List.mem_append_right _ h))
  have HY3 := Lib.hid (sl_of_row (zs := [0, 4, 8]) (L := rowL 3 (flatI [0, 8]) (some (r2, cap2, sp2)) ++ (gdL p r exG ++ old w)) hok3)
  clear hok3 hS3
  go_wp2_with fail
  refine (sameInts_any (HS3.out.2.alloc (.cells (flatI [0, 8]).toArray 3)) (HX3.out.mono (fun x h => .tail _ h)) (sl_lit [0, 8]) (by simp) (by simp)).mono ?_
  rintro e w4 ⟨rfl, hS4⟩
  have HS4 := Lib.hid hS4.tail
  clear hS4
  go_wp2_with fail
  refine (sameInts_any (HS4.out.alloc (.cells (flatI [0, 4, 8]).toArray 3)) (HY3.out.mono (fun x h => .tail _ h)) (sl_lit [0, 4, 8]) (by simp) (by simp)).mono ?_
  rintro e w5 ⟨rfl, hS5⟩
  have HS5 := Lib.hid hS5.tail.rest.rest
  clear hS5
  go_wp2_with fail
  go_ret
  exact ⟨rfl, SH.toBelow (L := gdL p r exG) HS5.out⟩
end Go.Proofs.YtmabanabdoalaaaDoor
