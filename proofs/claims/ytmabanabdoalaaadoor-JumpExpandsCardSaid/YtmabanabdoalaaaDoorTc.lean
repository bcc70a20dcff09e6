/- The law JumpExpands: the walk. -/
import Derived.Test.YtmabanabdoalaaaDoorJa
import Derived.Test.YtmabanabdoalaaaDoorSk
import Derived.Test.YtmabanabdoalaaaDoorTa
import Derived.Test.YtmabanabdoalaaaDoorTb
namespace Go.Proofs.YtmabanabdoalaaaDoor
open Go.RowKit

theorem expFrom_len {g : Gd} : ∀ (xs : List Int) (a : Int) (l : List Int), expFrom g a xs = some l → l.length ≤ 34 * xs.length := by
  intro xs
  induction xs with
  | nil => intro a l h; cases h; simp
  | cons b xs ih =>
    intro a l h
    unfold expFrom at h
    obtain ⟨m, h1, h2⟩ := Option.bind_eq_some_iff.1 h
    obtain ⟨k, h3, h4⟩ := Option.map_eq_some_iff.1 h2
    subst h4
    have := ih _ _ h3
    have := along_len _ _ h1
    simp; omega
theorem expandR_cons (g : Gd) (a : Int) (xs : List Int) : expandR g (a :: xs) = if (a :: xs).all (fun x => g.has x) = false then (none, 0) else if (a :: xs).any (fun x => !g.fre x) = true then (none, 8) else
    match expFrom g a xs with
    | some l => (some (a :: l), 0)
    | none => (none, 8) := rfl
theorem expandR_len {g : Gd} {xs l : List Int} {c : Nat} (h : expandR g xs = (some l, c)) : l.length ≤ 34 * xs.length + 1 := by
  cases xs with
  | nil => cases h
  | cons a xs =>
    rw [expandR_cons] at h
    by_cases h1 : (a :: xs).all (fun x => g.has x) = false
    · rw [if_pos h1] at h; cases h
    rw [if_neg h1] at h
    by_cases h2 : (a :: xs).any (fun x => !g.fre x) = true
    · rw [if_pos h2] at h; cases h
    rw [if_neg h2] at h
    cases hm : expFrom g a xs with
    | some m =>
      rw [hm] at h
      have := expFrom_len _ _ _ hm
      cases h
      simp; omega
    | none => rw [hm] at h; cases h
theorem expandR_code {g : Gd} {xs : List Int} {c : Nat} (h : expandR g xs = (none, c)) : c < 10 := by
  cases xs with
  | nil => cases h; decide
  | cons a xs =>
    rw [expandR_cons] at h
    by_cases h1 : (a :: xs).all (fun x => g.has x) = false
    · rw [if_pos h1] at h; have := (Prod.mk.inj h).2; omega
    rw [if_neg h1] at h
    by_cases h2 : (a :: xs).any (fun x => !g.fre x) = true
    · rw [if_pos h2] at h; have := (Prod.mk.inj h).2; omega
    rw [if_neg h2] at h
    cases hm : expFrom g a xs with
    | some m => rw [hm] at h; cases h
    | none => rw [hm] at h; have := (Prod.mk.inj h).2; omega
theorem sl_none {L : List (Nat × Obj)} : Sl encI 1 L (.slice none 0 0) [] := ⟨none, 0, rfl, Nat.le_refl _, .inl rfl⟩
/-- both Expands in one form: tiles and a number -/
def expL (r : Option (List Int) × Nat) : List Int := r.1.getD []
def expC (r : Option (List Int) × Nat) : Nat := match r with
  | (some _, _) => 0
  | (none, c) => c + 1

section
variable {W w : World} {L : List (Nat × Obj)} {p : Nat} {g : Gd}
set_option maxRecDepth 100000 in
theorem expand_nil (hS : SH W w L) {er : Nat → Addr} (hE : Errs L er) {v : Value} (hx : Sl encI 1 L v []) :
    Calls Tryd.prog 14 #[.pointer (some ⟨p, 0, none⟩), v] w (ExpP W L er (none, 2)) := by
  obtain ⟨ao, c, rfl, hc, _⟩ := hx
  have HB := Lib.hid (hS.alloc (gvO p))
  have g2 := (hE.mono (M := (w.heap.size, gvO p) :: L) (fun x h => .tail _ h)).v2.cell HB.out
  unfold gvO at g2
  clear hS hE
  go_enter Tryd.func14, Tryd.ntmps14
  go_wp2_with fail
  go_quiet (fail)
  have HS9 := Lib.hid (HB.out.tail.drewN (n := nq))
  go_wp2_with fail
  go_ret2
  exact ⟨rfl, HS9.out⟩
set_option maxRecDepth 100000 in
theorem expand18_nil (hS : SH W w L) {v u : Value} (hx : Sl encI 1 L v []) :
    Calls Tryd.prog 16 #[u, v] w (ExpQ W L (none, 2)) := by
  obtain ⟨ao, c, rfl, hc, _⟩ := hx
  have HS := Lib.hid hS
  clear hS
  go_enter Tryd.func16, Tryd.ntmps16
  go_wp2_with fail
  go_ret2
  exact ⟨rfl, HS.out⟩
theorem exp_one (ok : GdOk g) (hS : SH W w L) (hG : GdIn L p g) {er : Nat → Addr} (hE : Errs L er) {v : Value} {xs : List Int} (hx : Sl encI 1 L v xs) (hn : xs.length ≤ 1000) :
    Calls Tryd.prog 14 #[.pointer (some ⟨p, 0, none⟩), v] w fun e w' => ∃ u M, e = .returned (.tuple #[u, codeV er (expC (expandR g xs))]) ∧ Sl encI 1 (M ++ L) u (expL (expandR g xs)) ∧ SH W w' (M ++ L) := by
  have h : Calls Tryd.prog 14 #[.pointer (some ⟨p, 0, none⟩), v] w (ExpP W L er (expandR g xs)) := by
    cases xs with
    | nil => exact expand_nil hS hE hx
    | cons a xs => exact expand_cons ok hS hG hE hx hn
  refine h.mono fun e w' he => ?_
  generalize expandR g xs = r at he ⊢
  obtain ⟨o, c⟩ := r
  cases o with
  | none => exact ⟨_, [], he.1, sl_none, he.2⟩
  | some l =>
    obtain ⟨u, rfl, r, cap, sp, rfl, hok, hs⟩ := he
    exact ⟨_, _, rfl, sl_of_row hok, hs⟩
theorem exp_two (ok : GdOk g) (hS : SH W w L) (hG : RgIn L p g) {v : Value} {xs : List Int} (hx : Sl encI 1 L v xs) (hn : xs.length ≤ 1000) :
    Calls Tryd.prog 16 #[.pointer (some ⟨p, 0, none⟩), v] w fun e w' => ∃ u M, e = .returned (.tuple #[u, .int .i64 (expC (expandR g xs) : Nat)]) ∧ Sl encI 1 (M ++ L) u (expL (expandR g xs)) ∧ SH W w' (M ++ L) := by
  have h : Calls Tryd.prog 16 #[.pointer (some ⟨p, 0, none⟩), v] w (ExpQ W L (expandR g xs)) := by
    cases xs with
    | nil => exact expand18_nil hS hx
    | cons a xs => exact expand18_cons ok hS hG hx hn
  refine h.mono fun e w' he => ?_
  generalize expandR g xs = r at he ⊢
  obtain ⟨o, c⟩ := r
  cases o with
  | none => exact ⟨_, [], he.1, sl_none, he.2⟩
  | some l =>
    obtain ⟨u, rfl, r, cap, sp, rfl, hok, hs⟩ := he
    exact ⟨_, _, rfl, sl_of_row hok, hs⟩
end
def gridO (a : Gr) : Obj := .cells #[.int .i64 a.w, .int .i64 a.h, .int .i64 a.s, .int .i64 a.x, .int .i64 a.y] 23 (0, 0)
theorem gridCells {W w : World} {L : List (Nat × Obj)} {b : Nat} {a : Gr} (h : SH W w L) (m : (b, gridO a) ∈ L) :
    w.cell? ⟨b, 0, none⟩ = some (.int .i64 a.w) ∧ w.cell? ⟨b, 1, none⟩ = some (.int .i64 a.h) ∧ w.cell? ⟨b, 2, none⟩ = some (.int .i64 a.s) ∧ w.cell? ⟨b, 3, none⟩ = some (.int .i64 a.x) ∧ w.cell? ⟨b, 4, none⟩ = some (.int .i64 a.y) :=
  ⟨h.cell m rfl, h.cell m rfl, h.cell m rfl, h.cell m rfl, h.cell m rfl⟩

set_option maxHeartbeats 1600000 in
set_option maxRecDepth 100000 in
theorem expands_any {W : World} {er : Nat → Addr} (hE : Errs (old W) er) (a : Gr) {v u : Value} {xs ys : List Int} (hx : Sl encI 1 (old W) v xs) (hy : Sl encI 1 (old W) u ys) :
    Calls Tryd.prog 5 #[a.val, v, u] W fun e w' => e = .returned (.bool true) ∧ Below W.heap.size W w' := by
  have HX := Lib.hid hx
  have HY := Lib.hid hy
  have HE := Lib.hid hE
  obtain ⟨ao, c, rfl, _, _⟩ := hx
  obtain ⟨bo, d, rfl, _, _⟩ := hy
  have HA := Lib.hid ((SH.start W).alloc (gridO a))
  obtain ⟨n, hnn⟩ : ∃ n, ys.length = n := ⟨_, rfl⟩
  rw [hnn] at HY ⊢
  have Hn := Lib.hid hnn
  unfold gridO at HA
  unfold Gr.val
  clear hE hnn
  go_enter Tryd.func5, Tryd.ntmps5
  go_wp2_with fail
  refine (alive18 _).mono ?_
  rintro e w1 ⟨rfl, hb⟩
  have HS1 := Lib.hid (HA.out.below hb)
  obtain ⟨c0, c1, c2, c3, c4⟩ := gridCells HS1.out (.head _)
  have hl := HS1.out.lt (.head _)
  clear hb
  go_wp2_with fail
  refine (made_any HS1.out a (HX.out.mono (fun x h => .tail _ h))).mono ?_
  rintro e w2 (⟨p, m, g, M, rfl, ok, _, hG, hR, hS2⟩ | ⟨rfl, hS2⟩)
  · have HS2 := Lib.hid hS2
    have HG := Lib.hid (And.intro hG hR)
    clear c0 c1 c2 c3 c4 hG hR hS2
    rcases (by omega : 100 < n ∨ n ≤ 100) with hbig | hsm
    · go_wp2_with fail
      go_ret
      refine ⟨rfl, ?_⟩
      have h5 := HS2.out
      exact SH.toBelow (L := M ++ [(W.heap.size, gridO a)]) (by simpa [gridO] using h5)
    · have hys : ys.length ≤ 100 := by have := Hn.out; omega
      obtain ⟨r, hr⟩ : ∃ r, expandR g ys = r := ⟨_, rfl⟩
      have hrl : (expL r).length ≤ 3401 := by
        obtain ⟨o, c⟩ := r
        cases o with
        | none => simp [expL]
        | some l => have := expandR_len hr; show l.length ≤ 3401; omega
      have hrc : expC r ≤ 10 := by
        obtain ⟨o, c⟩ := r
        cases o with
        | none => have := expandR_code hr; show c + 1 ≤ 10; omega
        | some l => exact Nat.zero_le _
      have HRr := Lib.hid (And.intro hr (And.intro hrl hrc))
      have Hys := Lib.hid hys
      have H0 : Hid (∀ z ∈ old W, z ∈ M ++ ((W.heap.size, gridO a) :: old W)) := fun z h => List.mem_append_right _ (.tail _ h)
      clear hr hrl hrc hys
      go_wp2_with fail
      have hcopy := ints_any HS2.out (HY.out.mono H0.out) (by have := Hys.out; omega)
      refine hcopy.mono ?_
      clear hcopy
      rintro e w3 ⟨v3, M3, rfl, hV3, hS3⟩
      have H3 := Lib.hid (And.intro hV3 hS3)
      clear hV3 hS3
      go_wp2_with fail
      have hexp := exp_one ok H3.out.2 (HG.out.1.mono (fun z h => List.mem_append_right _ h)) (HE.out.mono (fun z h => List.mem_append_right _ (H0.out z h))) H3.out.1 (by have := Hys.out; omega)
      rw [HRr.out.1] at hexp
      refine hexp.mono ?_
      clear hexp
      rintro e w4 ⟨v4, M4, rfl, hV4, hS4⟩
      have H4 := Lib.hid (And.intro hV4 hS4)
      clear hV4 hS4
      go_wp2_with fail
      have hexp := exp_two ok H4.out.2 (HG.out.2.mono (fun z h => List.mem_append_right _ (List.mem_append_right _ h))) (HY.out.mono (fun z h => List.mem_append_right _ (List.mem_append_right _ (H0.out z h)))) (by have := Hys.out; omega)
      rw [HRr.out.1] at hexp
      refine hexp.mono ?_
      clear hexp
      rintro e w5 ⟨v5, M5, rfl, hV5, hS5⟩
      have H5 := Lib.hid (And.intro hV5 hS5)
      clear hV5 hS5
      go_wp2_with fail
      have hsame := sameInts_any H5.out.2 (H4.out.1.mono (fun z h => List.mem_append_right _ h)) H5.out.1 (by have := HRr.out.2.1; omega) (by have := HRr.out.2.1; omega)
      rw [decide_eq_true rfl] at hsame
      refine hsame.mono ?_
      clear hsame
      rintro e w6 ⟨rfl, hS6⟩
      have H6 := Lib.hid hS6
      clear hS6
      go_wp2_with fail
      have hnum := num_any H6.out (HE.out.mono (fun z h => List.mem_append_right _ (List.mem_append_right _ (List.mem_append_right _ (H0.out z h))))) (expC r) HRr.out.2.2
      refine hnum.mono ?_
      clear hnum
      rintro e w7 ⟨rfl, hb7⟩
      have H7 := Lib.hid (H6.out.below hb7)
      clear hb7
      have k1 : ((expC r : Int) == (expC r : Int)) = true := by simp
      go_wp2_with fail
      go_ret
      refine ⟨by simp, ?_⟩
      have h5 := H7.out
      exact SH.toBelow (L := M5 ++ (M4 ++ (M3 ++ (M ++ [(W.heap.size, gridO a)])))) (by simpa [gridO] using h5)
  · have HS2 := Lib.hid hS2
    clear hS2 c0 c1 c2 c3 c4
    go_wp2_with fail
    go_ret
    exact ⟨rfl, SH.toBelow (L := [_]) HS2.out⟩
end Go.Proofs.YtmabanabdoalaaaDoor
