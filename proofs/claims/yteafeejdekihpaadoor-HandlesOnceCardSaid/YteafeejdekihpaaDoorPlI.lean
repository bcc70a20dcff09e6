/- The law HandlesOnce: what is known behind each step of its loop. -/
import Derived.Test.YteafeejdekihpaaDoorPlG
namespace Go.Proofs.YteafeejdekihpaaDoor
open Go.RowKit

def encO (o : Int × Int × Int × Int) : List Value := [.int .i64 o.1, .int .i64 o.2.1, .int .i64 o.2.2.1, .int .i64 o.2.2.2]

theorem zeroBool (w : World) : (zeroValue 4).run Tryd.prog w = .ok (.bool false) w := by kernel_rfl
/-- the blocks of the loop: the handles that live, the two maps -/
def onL (r : Nat) (sp : List Value) (live : List (Int × Int)) (mg mo cg co : Nat) (lg lo : MList (Int × Int)) : List (Nat × Obj) :=
  (r, .cells (flatE live ++ sp).toArray 42 (0, 0)) :: (mg, .map (mEs kvH lg) cg) :: [(mo, .map (mEs kvH lo) co)]
structure OnSt (W wr : World) (p mg mo k : Nat) (r cap : Nat) (live : List (Int × Int)) : Prop where
  ex : ∃ q lg cg lo co sp, Once q live lg lo k ∧ MOk lg cg ∧ MOk lo co ∧ rowOk 2 live.length (flatE live) (some (r, cap, sp)) ∧ PlAt W wr p q (onL r sp live mg mo cg co lg lo ++ old W)

theorem u64_nat {n : Nat} (hn : n ≤ 100000) : IntKind.u64.wrap (n : Int) = n := by
  simp [IntKind.wrap, IntKind.bits, IntKind.signed]; omega
theorem i64_succ {n : Nat} (hn : n ≤ 100000) : IntKind.i64.wrap ((n : Int) + 1) = ((n + 1 : Nat) : Int) := by
  simp [IntKind.wrap, IntKind.bits, IntKind.signed]; omega
theorem idx_of (x : Int) {n : Nat} (h0 : 0 < n) (hn : n ≤ 100000) : ∃ j : Nat, j < n ∧ wrap64 ((IntKind.u64.wrap x).tmod (n : Int)) = j := by
  have h1 : 0 ≤ IntKind.u64.wrap x := Int.emod_nonneg _ (by decide)
  have h2 : (IntKind.u64.wrap x).tmod (n : Int) = IntKind.u64.wrap x % n := Int.tmod_eq_emod_of_nonneg h1
  have h3 : 0 ≤ IntKind.u64.wrap x % n := Int.emod_nonneg _ (by omega)
  have h4 : IntKind.u64.wrap x % n < n := Int.emod_lt_of_pos _ (by omega)
  refine ⟨(IntKind.u64.wrap x % n).toNat, by omega, ?_⟩
  rw [h2]
  generalize IntKind.u64.wrap x % (n : Int) = y at h3 h4 ⊢
  unfold wrap64
  omega


theorem flatE_get {es : List (Int × Int)} {sp : List Value} {i : Nat} {u : Value} (hu : (flatE es)[i]? = some u) : (flatE es ++ sp).toArray[i]? = some u := by
  have := (List.getElem?_eq_some_iff.1 hu).1
  simp only [List.getElem?_toArray]
  rw [List.getElem?_append_left this]; exact hu
theorem flatE_one (l : List (Int × Int)) : ∀ u ∈ flatE l, u.oneCell' = true := by
  intro u hu
  obtain ⟨x, _, hx⟩ := List.mem_flatMap.1 hu
  simp only [encE, List.mem_cons, List.not_mem_nil, or_false] at hx
  rcases hx with rfl | rfl <;> rfl
theorem on_owned {W wb : World} {M : List (Nat × Obj)} {hb ob : Nat × Obj} {r cap mg mo cg co j : Nat} {sp : List Value} {live : List (Int × Int)} {lg lo : MList (Int × Int)} (hS : SH W wb (M ++ (hb :: ob :: (onL r sp live mg mo cg co lg lo ++ old W))))
    (hr : rowOk 2 live.length (flatE live) (some (r, cap, sp))) (hj : j ≤ live.length) :
    rowOk 2 j (flatE (live.take j)) (some (r, cap, flatE (live.drop j) ++ sp)) ∧ SH W wb (rowL 42 (flatE (live.take j)) (some (r, cap, flatE (live.drop j) ++ sp)) ++ (M ++ (hb :: ob :: (mg, .map (mEs kvH lg) cg) :: (mo, .map (mEs kvH lo) co) :: old W))) := by
  have e : flatE live ++ sp = flatE (live.take j) ++ (flatE (live.drop j) ++ sp) := by
    rw [← List.append_assoc]
    congr 1
    unfold flatE
    rw [← List.flatMap_append, List.take_append_drop]
  obtain ⟨h1, h2, h3, h4⟩ := hr
  refine ⟨⟨by rw [flatE_len]; simp; omega, by rw [← e]; exact h2, by omega, h4⟩, ?_⟩
  have hp : (M ++ (hb :: ob :: (onL r sp live mg mo cg co lg lo ++ old W))).Perm ((r, .cells (flatE live ++ sp).toArray 42 (0, 0)) :: (M ++ (hb :: ob :: (mg, .map (mEs kvH lg) cg) :: (mo, .map (mEs kvH lo) co) :: old W))) := by
    have h1 : (hb :: ob :: (onL r sp live mg mo cg co lg lo ++ old W)).Perm ((r, .cells (flatE live ++ sp).toArray 42 (0, 0)) :: hb :: ob :: (mg, .map (mEs kvH lg) cg) :: (mo, .map (mEs kvH lo) co) :: old W) :=
      List.perm_middle (l₁ := [hb, ob])
    exact (h1.append_left M).trans List.perm_middle
  have h5 := hS.perm hp
  rw [e] at h5
  exact h5
theorem on_news {W wb : World} {R : List (Nat × Obj)} {r j cap : Nat} {sp : List Value} {live : List (Int × Int)} {E : TypeId} (hj : j < live.length) (hS : SH W wb (rowL E (flatE (live.take j)) (some (r, cap, flatE (live.drop j) ++ sp)) ++ R)) :
    ∀ (n : Nat) (u : Value), (flatE (live.drop (j + 1)))[n]? = some u → wb.cell? ((⟨r, (j + 1) * 2, none⟩ : Addr).add n) = some u := by
  intro n u hu
  have ea : (⟨r, (j + 1) * 2, none⟩ : Addr).add n = ⟨r, (j + 1) * 2 + n, none⟩ := by unfold Addr.add; split <;> simp_all
  rw [ea]
  refine hS.cell (.head _) ?_
  have e : flatE (live.take j) ++ (flatE (live.drop j) ++ sp) = flatE (live.take (j + 1)) ++ (flatE (live.drop (j + 1)) ++ sp) := by
    rw [← List.append_assoc, ← List.append_assoc]
    congr 1
    unfold flatE
    rw [← List.flatMap_append, ← List.flatMap_append, List.take_append_drop, List.take_append_drop]
  rw [e]
  have hl : (flatE (live.take (j + 1))).length = (j + 1) * 2 := by rw [flatE_len]; simp; omega
  have h2 := (List.getElem?_eq_some_iff.1 hu).1
  simp only [List.getElem?_toArray]
  rw [List.getElem?_append_right (by omega), hl, show (j + 1) * 2 + n - (j + 1) * 2 = n by omega, List.getElem?_append_left h2]
  exact hu
theorem perm_mo {α : Type} (a b c d e : α) (L : List α) : (a :: b :: c :: d :: e :: L).Perm (e :: a :: b :: c :: d :: L) := List.perm_middle (l₁ := [a, b, c, d])
theorem on_back {W w2 : World} {M : List (Nat × Obj)} {hb ob : Nat × Obj} {g cap mg mo cg co : Nat} {sp : List Value} {live : List (Int × Int)} {lg lo : MList (Int × Int)} {p : Nat} {q : Pl} (hM : PlIs p q M)
    (hS : SH W w2 (rowL 42 (flatE live) (some (g, cap, sp)) ++ (M ++ (hb :: ob :: (mg, .map (mEs kvH lg) cg) :: (mo, .map (mEs kvH lo) co) :: old W)))) :
    PlAt W w2 p q (hb :: ob :: (onL g sp live mg mo cg co lg lo ++ old W)) := by
  refine ⟨M, hM, hS.perm ?_⟩
  have h1 : ((g, Obj.cells (flatE live ++ sp).toArray 42 (0, 0)) :: hb :: ob :: (mg, .map (mEs kvH lg) cg) :: (mo, .map (mEs kvH lo) co) :: old W).Perm (hb :: ob :: (onL g sp live mg mo cg co lg lo ++ old W)) :=
    (List.perm_middle (l₁ := [hb, ob])).symm
  exact ((List.perm_middle (l₁ := M)).symm.trans (h1.append_left M))
theorem on_own2 {W w : World} {p : Nat} {q : Pl} {s mg h rc mo : Nat × Obj} {R : List (Nat × Obj)} (hH : Own (PlIs p q) W w (s :: mg :: h :: rc :: mo :: R)) :
    ∃ M, PlIs p q M ∧ SH W w (rc :: (M ++ (s :: mg :: h :: mo :: R))) := by
  obtain ⟨M, hM, hS⟩ := hH
  refine ⟨M, hM, hS.perm ?_⟩
  have h1 : (s :: mg :: h :: rc :: mo :: R).Perm (rc :: s :: mg :: h :: mo :: R) := List.perm_middle (l₁ := [s, mg, h])
  exact (h1.append_left M).trans List.perm_middle
theorem on_back2 {W w : World} {p : Nat} {q : Pl} {s mg h rc mo : Nat × Obj} {R M : List (Nat × Obj)} (hM : PlIs p q M) (hS : SH W w (rc :: (M ++ (s :: mg :: h :: mo :: R)))) :
    Own (PlIs p q) W w (mo :: rc :: mg :: R) := by
  refine ⟨M, hM, SH.tail (x := h) (SH.tail (x := s) (hS.perm ?_))⟩
  have h1 : (rc :: s :: mg :: h :: mo :: R).Perm (s :: h :: mo :: rc :: mg :: R) := by
    have a1 : (rc :: s :: mg :: h :: mo :: R).Perm (s :: rc :: mg :: h :: mo :: R) := List.Perm.swap _ _ _
    have a2 : (rc :: mg :: h :: mo :: R).Perm (h :: rc :: mg :: mo :: R) := List.perm_middle (l₁ := [rc, mg])
    have a3 : (rc :: mg :: mo :: R).Perm (mo :: rc :: mg :: R) := List.perm_middle (l₁ := [rc, mg])
    exact a1.trans ((a2.trans (a3.cons _)).cons _)
  have h2 : (rc :: (M ++ (s :: mg :: h :: mo :: R))).Perm (M ++ (rc :: s :: mg :: h :: mo :: R)) := List.perm_middle.symm
  have h3 : (M ++ (s :: h :: mo :: rc :: mg :: R)).Perm (s :: h :: (M ++ (mo :: rc :: mg :: R))) := List.perm_middle.trans (List.perm_middle.cons _)
  exact h2.trans ((h1.append_left M).trans h3)
theorem perm_fin {α : Type} (mo g mg : α) (R : List α) : (mo :: g :: mg :: R).Perm (g :: mg :: mo :: R) := (List.perm_middle (l₁ := [g, mg])).symm
theorem take_once {W w : World} {L : List (Nat × Obj)} {p k c : Nat} {q : Pl} {live : List (Int × Int)} {lg lo : MList (Int × Int)} {a : Addr} (hO : Once q live lg lo k) (hk : k ≤ 1000) (hH : PlAt W w p q L) (hE : Var L 0 (errV a)) :
    Calls Tryd.prog 19 #[.pointer (some ⟨p, 0, none⟩)] w fun e w' =>
      (∃ (hi hg : Int) (q' : Pl), e = .returned (.tuple #[.agg #[.int .i64 hi, .int .i64 hg], .nilIface]) ∧ (mget lg (hi, hg) = none ∧ mget lo (hi, hg) = none ∧ Once q' (live ++ [(hi, hg)]) (mput lg (hi, hg) (.bool true) c) lo (k + 1)) ∧ PlAt W w' p q' L) ∨
      (e = .returned (.tuple #[.agg #[.int .i64 0, .int .i64 0], errV a]) ∧ live.length = 128 ∧ Once q live lg lo (k + 1) ∧ PlAt W w' p q L) := by
  have hn := hO.ok.n0
  have hfr := hO.frs
  rcases once_cases hO with ⟨hf, hf2⟩ | ⟨fs, i, gen, hf, hf2⟩ | ⟨hf, hf2⟩
  · refine (take_new hH hf hf2 hn.1 (by omega)).mono ?_
    rintro e w' ⟨rfl, h⟩
    exact .inl ⟨_, _, _, rfl, once_grow hO hf hf2, h⟩
  · have hfl : q.fr.length = fs.length + 1 := by rw [hf]; simp
    refine (take_free hH hf hf2 (by omega) hn.1 (by omega)).mono ?_
    rintro e w' ⟨rfl, h⟩
    exact .inl ⟨_, _, _, rfl, once_take hO hf hf2, h⟩
  · refine (take_full hH hE hf hf2).mono ?_
    rintro e w' ⟨rfl, h⟩
    have h2 := once_full hO hk hf hf2
    exact .inr ⟨rfl, h2.1, h2.2, h⟩
theorem once_hz {W w7 : World} {p k g cap1 mg mo cg cg' co co' : Nat} {q' : Pl} {live live' : List (Int × Int)} {lg lg' lo lo' : MList (Int × Int)} {hi hg : Int} {s h : Nat × Obj} {sp1 : List Value} {M : List (Nat × Obj)}
    (e1 : live' = live ++ [(hi, hg)]) (e2 : lo' = lo) (e3 : co' = co) (e4 : lg' = mput lg (hi, hg) (.bool true) cg) (e5 : cg' = mclock lg (hi, hg) cg)
    (hO : Once q' (live ++ [(hi, hg)]) (mput lg (hi, hg) (.bool true) cg) lo (k + 1)) (hmg : MOk lg cg) (hmo : MOk lo co) (hM : PlIs p q' M)
    (hG : rowOk 2 live'.length (flatE live ++ [Value.int .i64 hi, Value.int .i64 hg]) (some (g, cap1, sp1)) ∧ SH W w7 ((g, .cells ((flatE live ++ [Value.int .i64 hi, Value.int .i64 hg]) ++ sp1).toArray 42 (0, 0)) :: (M ++ (s :: (mg, .map (mEs kvH (mput lg (hi, hg) (.bool true) cg)) (mclock lg (hi, hg) cg)) :: h :: (mo, .map (mEs kvH lo) co) :: old W)))) :
    Once q' live' lg' lo' (k + 1) ∧ MOk lg' cg' ∧ MOk lo' co' ∧ rowOk 2 live'.length (flatE live') (some (g, cap1, sp1)) ∧ PlAt W w7 p q' ((mo, .map (mEs kvH lo') co') :: (g, .cells (flatE live' ++ sp1).toArray 42 (0, 0)) :: (mg, .map (mEs kvH lg') cg') :: old W) := by
  subst e1 e2 e3 e4 e5
  have e : flatE live ++ [Value.int .i64 hi, Value.int .i64 hg] = flatE (live ++ [(hi, hg)]) := by simp [flatE, encE]
  rw [e] at hG
  exact ⟨hO, mput_ok hmg, hmo, hG.1, on_back2 hM hG.2⟩
end Go.Proofs.YteafeejdekihpaaDoor
