/- Package heap: what New, Len, Peek and Pop do. -/
import Derived.Test.YtmabanabdoalaaaDoorHpD
namespace Go.Proofs.YtmabanabdoalaaaDoor
open Go.RowKit

set_option maxHeartbeats 400000 in
theorem heapNew_any {W w : World} {L : List (Nat × Obj)} (hS : SH W w L) :
    Calls Tryd.prog 42 #[] w fun e w' => ∃ p, e = .returned (.pointer (some ⟨p, 0, none⟩)) ∧ HpAt W w' p [] L := by
  have HS := Lib.hid hS
  clear hS
  go_enter Tryd.func42, Tryd.ntmps42
  go_wp2
  go_ret
  exact ⟨_, rfl, _, ⟨none, ⟨rfl, rfl⟩, rfl⟩, HS.out.alloc _⟩

set_option maxHeartbeats 400000 in
theorem heapLen_any {W w : World} {L : List (Nat × Obj)} {p : Nat} {es : List (Int × Int)} (hH : HpAt W w p es L) :
    Calls Tryd.prog 69 #[.pointer (some ⟨p, 0, none⟩)] w fun e w' => e = .returned (.int .i64 es.length) ∧ w = w' := by
  obtain ⟨_, ⟨st, ok, rfl⟩, hS⟩ := hH
  obtain ⟨ao, cp, hv⟩ := rowV_form ok
  have hp : w.cell? ⟨p, 0, none⟩ = some (.slice ao es.length cp) := hS.cell (.head _) (by simp [hv])
  clear hv ok hS
  go_enter Tryd.func69, Tryd.ntmps69
  go_wp2
  go_ret
  exact ⟨rfl, rfl⟩

set_option maxHeartbeats 800000 in
theorem peek_none {W w : World} {L : List (Nat × Obj)} {p : Nat} {en : Value} (hH : HpAt W w p [] L) (hE : Var L 0 en) :
    Calls Tryd.prog 75 #[.pointer (some ⟨p, 0, none⟩)] w fun e w' => e = .returned (.tuple #[.agg #[.int .i64 0, .int .i64 0], en]) ∧ HpAt W w' p [] L := by
  have HH := Lib.hid hH
  obtain ⟨_, ⟨st, ok, rfl⟩, hS⟩ := hH
  obtain ⟨ao, cp, hv⟩ := rowV_form ok
  have hp : w.cell? ⟨p, 0, none⟩ = some (.slice ao 0 cp) := hS.cell (.head _) (by simpa using hv)
  have he : w.cell? ⟨0, 0, none⟩ = some en := hE.cell HH.out.SH
  have hgw : 0 < w.heap.size := hE.lt HH.out.SH
  have hpw : p < w.heap.size := hS.lt (.head _)
  clear hv ok hS
  go_enter Tryd.func75, Tryd.ntmps75
  go_wp2_with fail
  go_region
  all_goals
    go_wp2_with fail
    exact bodyPost_ret (v := .tuple #[.agg #[.int .i64 0, .int .i64 0], en]) (by simp [results, Tryd.results75, go_sem]) rfl ⟨rfl, HH.out.below ((below_alloc _ _).drew)⟩

set_option maxHeartbeats 800000 in
theorem peek_some {W w : World} {L : List (Nat × Obj)} {p : Nat} {es : List (Int × Int)} {x : Int × Int} (hH : HpAt W w p (x :: es) L) :
    Calls Tryd.prog 75 #[.pointer (some ⟨p, 0, none⟩)] w fun e w' => e = .returned (.tuple #[.agg #[.int .i64 x.1, .int .i64 x.2], .nilIface]) ∧ HpAt W w' p (x :: es) L := by
  have HH := Lib.hid hH
  obtain ⟨_, ⟨st, ok, rfl⟩, hS⟩ := hH
  obtain ⟨k, v⟩ := x
  cases st with
  | none => exact absurd ok.1 (by simp)
  | some t =>
    obtain ⟨r, cap, sp⟩ := t
    have hp : w.cell? ⟨p, 0, none⟩ = some (.slice (some ⟨r, 0, none⟩) (es.length + 1) cap) := hS.cell (.head _) rfl
    have c0 : w.cell? ⟨r, 0, none⟩ = some (.int .i64 k) := hS.cell (.tail _ (.head _)) (flatE_get0 (es := (k, v) :: es) (i := 0) (x := (k, v)) rfl)
    have c1 : w.cell? ⟨r, 1, none⟩ = some (.int .i64 v) := hS.cell (.tail _ (.head _)) (flatE_get1 (es := (k, v) :: es) (i := 0) (x := (k, v)) rfl)
    have hpw : p < w.heap.size := hS.lt (.head _)
    have hrw : r < w.heap.size := hS.lt (.tail _ (.head _))
    have ht : ((es.length : Int) + 1 == 0) = false := beq_eq_false_iff_ne.2 (by omega)
    clear ok hS
    go_enter Tryd.func75, Tryd.ntmps75
    go_wp2_with fail
    exact bodyPost_ret (v := .tuple #[.agg #[.int .i64 k, .int .i64 v], .nilIface]) (by simp [results, Tryd.results75, go_sem]) rfl ⟨rfl, HH.out.below (below_alloc _ _)⟩

/-- what is left behind a Pop -/
def popL (x : Int × Int) (es : List (Int × Int)) : List (Int × Int) := downL (((x :: es).set 0 ((x :: es).getD es.length (0, 0))).take es.length) 0
theorem popL_len (x : Int × Int) (es : List (Int × Int)) : (popL x es).length = es.length := by
  rw [popL, downL_len]; simp

set_option maxHeartbeats 800000 in
theorem pop_none {W w : World} {L : List (Nat × Obj)} {p : Nat} {en : Value} (hH : HpAt W w p [] L) (hE : Var L 0 en) (hen : ∃ T a, en = .iface T a) :
    Calls Tryd.prog 70 #[.pointer (some ⟨p, 0, none⟩)] w fun e w' => e = .returned (.tuple #[.agg #[.int .i64 0, .int .i64 0], en]) ∧ HpAt W w' p [] L := by
  have HH := Lib.hid hH
  obtain ⟨T, a, rfl⟩ := hen
  go_enter Tryd.func70, Tryd.ntmps70
  go_wp2_with fail
  refine (peek_none (HH.out.alloc _) (hE.mono (fun _ h => .tail _ h))).mono ?_
  rintro e w1 ⟨rfl, hH1⟩
  have f0 := hH1.cell (off := 0) (.head _) rfl
  have f1 := hH1.cell (off := 1) (.head _) rfl
  have ff := fun o => hH1.free (off := o) (.head _)
  have fl := hH1.lt (.head _)
  have HH1 := Lib.hid hH1
  clear hH1 hH
  go_wp2_with fail
  have H3 := ((HH1.out.setCell 0 (.int .i64 0)).setCell 1 (.int .i64 0)).alloc (.cells #[.int .i64 0, .int .i64 0] 110)
  have q0 : _ = some (Value.int .i64 0) := H3.cell (off := 0) (.tail _ (.head _)) rfl
  have q1 : _ = some (Value.int .i64 0) := H3.cell (off := 1) (.tail _ (.head _)) rfl
  exact bodyPost_ret (v := .tuple #[.agg #[.int .i64 0, .int .i64 0], .iface T a]) (by simp [results, Tryd.results70, go_sem, q0, q1]) rfl ⟨rfl, H3.tail.tail⟩

theorem getElem?_getD {α : Type} {l : List α} {i : Nat} {d x : α} (h : l.getD i d = x) (hi : i < l.length) : l[i]? = some x := by
  rw [← h]; simp [hi]

theorem flatE_split (l : List (Int × Int)) (n : Nat) : flatE l = flatE (l.take n) ++ flatE (l.drop n) := by
  unfold flatE
  rw [← List.flatMap_append, List.take_append_drop]
theorem pop_world {W w1 : World} {L : List (Nat × Obj)} {p r cap n0 : Nat} {es : List (Int × Int)} {x y : Int × Int} {sp : List Value} {ob ob2 : Obj}
    (hS : SH W w1 (hpL p (x :: es) r cap sp ++ (n0, ob) :: L)) :
    SH W ((((w1.setCell ⟨r, 0, none⟩ (.int .i64 y.1)).setCell ⟨r, 1, none⟩ (.int .i64 y.2)).setCell ⟨p, 0, none⟩ (.slice (some ⟨r, 0, none⟩) es.length cap)).alloc ob2).drew
      (hpL p (((x :: es).set 0 y).take es.length) r cap (flatE (((x :: es).set 0 y).drop es.length) ++ sp) ++ (w1.heap.size, ob2) :: (n0, ob) :: L) := by
  have h1 := hS.perm (List.Perm.swap _ _ _)
  have h2 := (h1.setCell 0 (.int .i64 y.1)).setCell 1 (.int .i64 y.2)
  have e := flatE_set (es := x :: es) (sp := sp) (i := 0) (by simp) y
  simp only [Nat.zero_mul, Nat.zero_add] at e
  rw [e] at h2
  have h3 := (((h2.perm (List.Perm.swap _ _ _)).setCell 0 (.slice (some ⟨r, 0, none⟩) es.length cap)).alloc ob2).drew
  have h4 := h3.perm (List.perm_middle (l₁ := [_, _])).symm
  rw [flatE_split _ es.length, List.append_assoc] at h4
  simpa [hpL] using h4

set_option maxHeartbeats 1600000 in
theorem pop_some {W w : World} {L : List (Nat × Obj)} {p : Nat} {es : List (Int × Int)} {x : Int × Int} (hH : HpAt W w p (x :: es) L) (hn : es.length ≤ 16384) :
    Calls Tryd.prog 70 #[.pointer (some ⟨p, 0, none⟩)] w fun e w' => e = .returned (.tuple #[.agg #[.int .i64 x.1, .int .i64 x.2], .nilIface]) ∧ HpAt W w' p (popL x es) L := by
  have HH := Lib.hid hH
  obtain ⟨⟨kl, vl⟩, hl⟩ : ∃ y, (x :: es).getD es.length (0, 0) = y := ⟨_, rfl⟩
  obtain ⟨k, v⟩ := x
  go_enter Tryd.func70, Tryd.ntmps70
  go_wp2_with fail
  refine (peek_some (HH.out.alloc _)).mono ?_
  rintro e w1 ⟨rfl, hH1⟩
  have fl := hH1.lt (.head _)
  have HN := Lib.hid (show ((k, v) :: es)[es.length]? = some (kl, vl) from getElem?_getD hl (by simp))
  obtain ⟨_, ⟨st, ok, rfl⟩, hS⟩ := hH1
  cases st with
  | none => exact absurd ok.1 (by simp)
  | some t =>
    obtain ⟨r, cap, sp⟩ := t
    have hp : w1.cell? ⟨p, 0, none⟩ = some (.slice (some ⟨r, 0, none⟩) (es.length + 1) cap) := hS.cell (.head _) rfl
    have c0 : w1.cell? ⟨r, 0, none⟩ = some (.int .i64 k) := hS.cell (.tail _ (.head _)) (flatE_get0 (es := (k, v) :: es) (i := 0) (x := (k, v)) rfl)
    have c1 : w1.cell? ⟨r, 1, none⟩ = some (.int .i64 v) := hS.cell (.tail _ (.head _)) (flatE_get1 (es := (k, v) :: es) (i := 0) (x := (k, v)) rfl)
    have d0 : w1.cell? ⟨r, es.length * 2, none⟩ = some (.int .i64 kl) := hS.cell (.tail _ (.head _)) (flatE_get0 HN.out)
    have d1 : w1.cell? ⟨r, es.length * 2 + 1, none⟩ = some (.int .i64 vl) := hS.cell (.tail _ (.head _)) (flatE_get1 HN.out)
    have fr : ∀ o, w1.frozen? ⟨r, o, none⟩ = false := fun o => hS.free (.tail _ (.head _))
    have fp : ∀ o, w1.frozen? ⟨p, o, none⟩ = false := fun o => hS.free (.head _)
    have hpw : p < w1.heap.size := hS.lt (.head _)
    have hrw : r < w1.heap.size := hS.lt (.tail _ (.head _))
    have hne : p ≠ r := hS.ne (.head _)
    have hne2 : r ≠ p := Ne.symm hne
    have hcap : es.length + 1 ≤ cap := ok.2.2.1
    have Hok := Lib.hid ok
    have HS := Lib.hid hS
    have Hl := Lib.hid hl
    clear ok hS hl hH HH
    go_wp2_with fail
    go_region
    all_goals
      go_wp2_with fail
      have hP := pop_world (y := (kl, vl)) (ob2 := .cells #[.int .i64 k, .int .i64 v] 110) HS.out
      refine (down_any hP (by simp; omega)).mono ?_
      rintro e w2 ⟨rfl, hS2⟩
      have b0 : w2.cell? ⟨w1.heap.size, 0, none⟩ = some (Value.int .i64 k) := hS2.cell (.tail _ (.tail _ (.head _))) rfl
      have b1 : w2.cell? ⟨w1.heap.size, 1, none⟩ = some (Value.int .i64 v) := hS2.cell (.tail _ (.tail _ (.head _))) rfl
      have z0 : w2.cell? ⟨w.heap.size, 0, none⟩ = some (Value.int .i64 0) := hS2.cell (.tail _ (.tail _ (.tail _ (.head _)))) rfl
      have z1 : w2.cell? ⟨w.heap.size, 1, none⟩ = some (Value.int .i64 0) := hS2.cell (.tail _ (.tail _ (.tail _ (.head _)))) rfl
      have zf : ∀ o, w2.frozen? ⟨w.heap.size, o, none⟩ = false := fun o => hS2.free (.tail _ (.tail _ (.tail _ (.head _))))
      have HS2 := Lib.hid hS2
      clear hP hS2 HS hp c0 c1 d0 d1 fr fp hpw hrw
      go_wp2_with fail
      have h1 := HS2.out.perm (List.perm_middle (l₁ := [_, _, _]))
      have h2 := ((h1.setCell 0 (.int .i64 k)).setCell 1 (.int .i64 v))
      have q0 : _ = some (Value.int .i64 k) := h2.cell (off := 0) (.head _) rfl
      have q1 : _ = some (Value.int .i64 v) := h2.cell (off := 1) (.head _) rfl
      refine bodyPost_ret (v := .tuple #[.agg #[.int .i64 k, .int .i64 v], .nilIface]) (by simp [results, Tryd.results70, go_sem, q0, q1]) rfl ⟨rfl, ?_⟩
      refine ⟨_, ⟨some (r, cap, flatE ((((k, v) :: es).set 0 (kl, vl)).drop es.length) ++ sp), ?_, rfl⟩, ?_⟩
      · have := Hok.out
        simp only [rowOk, flatE_len, popL_len, List.length_append, List.length_cons, List.length_drop, List.length_set, true_and] at this ⊢
        exact ⟨by omega, by omega, this.2.2⟩
      · have h3 := h2.tail.sub (M := hpL p (popL (k, v) es) r cap (flatE ((((k, v) :: es).set 0 (kl, vl)).drop es.length) ++ sp) ++ L) (by
          simp only [hpL, popL, List.cons_append, List.nil_append, Hl.out, downL_len]
          exact ((List.sublist_cons_self _ _).cons_cons _).cons_cons _)
        exact h3
end Go.Proofs.YtmabanabdoalaaaDoor
