/- Package steps: Go. -/
import Derived.Test.YtmabanabdoalaaaDoorGb
namespace Go.Proofs.YtmabanabdoalaaaDoor
open Go.RowKit

def costN (d : Int) : Int := if d % 2 = 0 then 10 else 14
/-- what Go answers -/
def stepV (g : Gd) (t d : Int) : Value :=
  if g.go t d = -1 then .tuple #[.agg #[.int .i64 0, .int .i64 0, .int .i64 0], .bool false] else .tuple #[.agg #[.int .i64 d, .int .i64 (g.go t d), .int .i64 (costN d)], .bool true]

section
variable {W w : World} {L : List (Nat × Obj)} {p : Nat} {g : Gd}
theorem step_own {W w w1 : World} {L : List (Nat × Obj)} (h : SH W w L) (o : Obj) (hb : Below (w.alloc o).heap.size (w.alloc o) w1) : SH W w1 ((w.heap.size, o) :: L) := (h.alloc o).below hb
theorem below_own {w w1 : World} {o : Obj} (hb : Below (w.alloc o).heap.size (w.alloc o) w1) : Below w.heap.size w w1 := (below_alloc w o).trans (hb.mono (by simp))
theorem below_set {w w1 : World} (hb : Below w.heap.size w w1) (i : Nat) (v : Value) : Below w.heap.size w (w1.setCell ⟨w.heap.size, i, none⟩ v) := hb.setCell (by simp) _

set_option maxHeartbeats 1600000 in
theorem go_any (ok : GdOk g) (hS : SH W w L) (hG : GdIn L p g) (t d : Int) :
    Calls Tryd.prog 13 #[.pointer (some ⟨p, 0, none⟩), .int .i64 t, .int .i64 d] w fun e w' => e = .returned (stepV g t d) ∧ Below w.heap.size w w' := by
  have HS := Lib.hid hS
  have HG := Lib.hid hG
  have HG2 := Lib.hid (hG.mono (M := (w.heap.size, .cells #[.int .i64 0, .int .i64 0, .int .i64 0] 37) :: L) (fun x h => .tail _ h))
  have HA := Lib.hid (hS.alloc (.cells #[.int .i64 0, .int .i64 0, .int .i64 0] 37))
  clear hS hG
  have none_ (h : g.go t d = -1) : stepV g t d = .tuple #[.agg #[.int .i64 0, .int .i64 0, .int .i64 0], .bool false] := by unfold stepV; rw [if_pos h]
  by_cases hf : g.fre t = true
  case neg =>
    have hf' : g.fre t = false := by simpa using hf
    have HV := Lib.hid (none_ (by unfold Gd.go; rw [if_neg (fun h => hf h.1)]))
    have HF := Lib.hid hf'
    clear hf hf' none_
    go_enter Tryd.func13, Tryd.ntmps13
    go_wp2_with fail
    refine (fre_any HA.out HG2.out t).mono ?_
    rintro e w1 ⟨rfl, rfl⟩
    rw [HF.out]
    go_wp2_with fail
    exact bodyPost_ret (v := .tuple #[.agg #[.int .i64 0, .int .i64 0, .int .i64 0], .bool false]) (by simp [results, Tryd.results13, go_sem]) rfl ⟨by rw [HV.out], below_alloc _ _⟩
  by_cases h0 : d < 0
  · have HV := Lib.hid (none_ (by unfold Gd.go; rw [if_neg (by omega)]))
    have HF := Lib.hid hf
    clear hf none_
    go_enter Tryd.func13, Tryd.ntmps13
    go_wp2_with fail
    refine (fre_any HA.out HG2.out t).mono ?_
    rintro e w1 ⟨rfl, rfl⟩
    rw [HF.out]
    go_wp2_with fail
    exact bodyPost_ret (v := .tuple #[.agg #[.int .i64 0, .int .i64 0, .int .i64 0], .bool false]) (by simp [results, Tryd.results13, go_sem]) rfl ⟨by rw [HV.out], below_alloc _ _⟩
  by_cases h8 : 8 ≤ d
  · have HV := Lib.hid (none_ (by unfold Gd.go; rw [if_neg (by omega)]))
    have HF := Lib.hid hf
    clear hf none_
    go_enter Tryd.func13, Tryd.ntmps13
    go_wp2_with fail
    refine (fre_any HA.out HG2.out t).mono ?_
    rintro e w1 ⟨rfl, rfl⟩
    rw [HF.out]
    go_wp2_with fail
    exact bodyPost_ret (v := .tuple #[.agg #[.int .i64 0, .int .i64 0, .int .i64 0], .bool false]) (by simp [results, Tryd.results13, go_sem]) rfl ⟨by rw [HV.out], below_alloc _ _⟩
  obtain ⟨d, rfl⟩ := Int.eq_ofNat_of_zero_le (show 0 ≤ d by omega)
  have hd8 : d < 8 := by omega
  have hd8' : (d : Int) < 8 := by omega
  clear h8
  have HF := Lib.hid hf
  have HGo : Hid (g.go t d = if g.to t d = -1 then -1 else if (d : Int) % 2 = 0 then g.to t d else if g.to t (d - 1) = -1 ∨ g.to t ((d + 1) % 8) = -1 then -1 else g.to t d) := by
    show g.go t d = _
    unfold Gd.go
    rw [if_pos ⟨hf, by omega, by omega⟩, Int.toNat_natCast]
  clear hf h0
  by_cases h1 : g.to t d = -1
  · have HV := Lib.hid (none_ (by rw [HGo.out, if_pos h1]))
    have H1 := Lib.hid h1
    clear h1 none_
    go_enter Tryd.func13, Tryd.ntmps13
    go_wp2_with fail
    refine (fre_any HA.out HG2.out t).mono ?_
    rintro e w1 ⟨rfl, rfl⟩
    rw [HF.out]
    go_wp2_with fail
    refine (to_any ok HA.out HG2.out HF.out hd8).mono ?_
    rintro e w1 ⟨rfl, hb⟩
    rw [H1.out]
    have HO := Lib.hid (step_own HS.out _ hb)
    have HB := Lib.hid (below_own hb)
    have hz0 := HO.out.cell (off := 0) (.head _) rfl
    have hz1 := HO.out.cell (off := 1) (.head _) rfl
    have hz2 := HO.out.cell (off := 2) (.head _) rfl
    have hzf : ∀ o, w1.frozen? ⟨w.heap.size, o, none⟩ = false := fun o => HO.out.free (.head _)
    have hzl := HO.out.lt (.head _)
    clear hb
    go_wp2_with fail
    have h3 := ((HO.out.setCell 0 (.int .i64 0)).setCell 1 (.int .i64 0)).setCell 2 (.int .i64 0)
    have q0 : _ = some (Value.int .i64 0) := h3.cell (off := 0) (.head _) rfl
    have q1 : _ = some (Value.int .i64 0) := h3.cell (off := 1) (.head _) rfl
    have q2 : _ = some (Value.int .i64 0) := h3.cell (off := 2) (.head _) rfl
    exact bodyPost_ret (v := .tuple #[.agg #[.int .i64 0, .int .i64 0, .int .i64 0], .bool false]) (by simp [results, Tryd.results13, go_sem, q0, q1, q2]) rfl ⟨by rw [HV.out], below_set (below_set (below_set HB.out _ _) _ _) _ _⟩
  obtain ⟨T, hT⟩ : ∃ T, g.to t d = T := ⟨_, rfl⟩
  have HTd := Lib.hid hT
  rw [hT] at HGo h1
  clear hT
  have k1 : (T == -1) = false := by simp [h1]
  by_cases he : (d : Int) % 2 = 0
  · have hgo : g.go t d = T := by rw [HGo.out, if_neg h1, if_pos he]
    have HV : Hid (stepV g t d = .tuple #[.agg #[.int .i64 d, .int .i64 T, .int .i64 10], .bool true]) := by
      show stepV g t d = _
      unfold stepV costN
      rw [hgo, if_neg h1, if_pos he]
    clear hgo none_
    go_enter Tryd.func13, Tryd.ntmps13
    go_wp2_with fail
    refine (fre_any HA.out HG2.out t).mono ?_
    rintro e w1 ⟨rfl, rfl⟩
    rw [HF.out]
    go_wp2_with fail
    refine (to_any ok HA.out HG2.out HF.out hd8).mono ?_
    rintro e w1 ⟨rfl, hb⟩
    rw [HTd.out]
    have HO := Lib.hid (step_own HS.out _ hb)
    have HB := Lib.hid (below_own hb)
    have hz0 := HO.out.cell (off := 0) (.head _) rfl
    have hz1 := HO.out.cell (off := 1) (.head _) rfl
    have hz2 := HO.out.cell (off := 2) (.head _) rfl
    have hzf : ∀ o, w1.frozen? ⟨w.heap.size, o, none⟩ = false := fun o => HO.out.free (.head _)
    have hzl := HO.out.lt (.head _)
    clear hb
    go_wp2_with fail
    have h3 := ((HO.out.setCell 0 (.int .i64 d)).setCell 1 (.int .i64 T)).setCell 2 (.int .i64 10)
    have q0 : _ = some (Value.int .i64 d) := h3.cell (off := 0) (.head _) rfl
    have q1 : _ = some (Value.int .i64 T) := h3.cell (off := 1) (.head _) rfl
    have q2 : _ = some (Value.int .i64 10) := h3.cell (off := 2) (.head _) rfl
    exact bodyPost_ret (v := .tuple #[.agg #[.int .i64 d, .int .i64 T, .int .i64 10], .bool true]) (by simp [results, Tryd.results13, go_sem, q0, q1, q2]) rfl ⟨by rw [HV.out], below_set (below_set (below_set HB.out _ _) _ _) _ _⟩
  have ho1 : 1 ≤ d := by omega
  have ho2 : d % 2 = 1 := by omega
  have he' : ((d : Int) % 2 == 0) = false := by simp; omega
  have m1 : (d : Int) - 1 = ((d - 1 : Nat) : Int) := by omega
  have m2 : ((d : Int) + 1) % 8 = (((d + 1) % 8 : Nat) : Int) := by omega
  have HM := Lib.hid (And.intro m1 m2)
  clear m1 m2
  by_cases h2 : g.to t (d - 1) = -1
  · have HV := Lib.hid (none_ (by rw [HGo.out, if_neg h1, if_neg he, if_pos (.inl h2)]))
    have H2 := Lib.hid h2
    clear h2 none_
    go_enter Tryd.func13, Tryd.ntmps13
    go_wp2_with fail
    refine (fre_any HA.out HG2.out t).mono ?_
    rintro e w1 ⟨rfl, rfl⟩
    rw [HF.out]
    go_wp2_with fail
    refine (to_any ok HA.out HG2.out HF.out hd8).mono ?_
    rintro e w1 ⟨rfl, hb⟩
    rw [HTd.out]
    have HO := Lib.hid (step_own HS.out _ hb)
    have HB := Lib.hid (below_own hb)
    clear hb
    go_wp2_with fail
    rw [HM.out.1]
    refine (to_any ok HO.out (HG.out.mono (fun x h => .tail _ h)) HF.out (d := d - 1) (by omega)).mono ?_
    rintro e w2 ⟨rfl, hb⟩
    rw [H2.out]
    have HB := Lib.hid (HB.out.trans (hb.mono HB.out.size))
    have HO := Lib.hid (HO.out.below hb)
    have hz0 := HO.out.cell (off := 0) (.head _) rfl
    have hz1 := HO.out.cell (off := 1) (.head _) rfl
    have hz2 := HO.out.cell (off := 2) (.head _) rfl
    have hzf : ∀ o, w2.frozen? ⟨w.heap.size, o, none⟩ = false := fun o => HO.out.free (.head _)
    have hzl := HO.out.lt (.head _)
    clear hb
    go_wp2_with fail
    have h3 := ((HO.out.setCell 0 (.int .i64 0)).setCell 1 (.int .i64 0)).setCell 2 (.int .i64 0)
    have q0 : _ = some (Value.int .i64 0) := h3.cell (off := 0) (.head _) rfl
    have q1 : _ = some (Value.int .i64 0) := h3.cell (off := 1) (.head _) rfl
    have q2 : _ = some (Value.int .i64 0) := h3.cell (off := 2) (.head _) rfl
    exact bodyPost_ret (v := .tuple #[.agg #[.int .i64 0, .int .i64 0, .int .i64 0], .bool false]) (by simp [results, Tryd.results13, go_sem, q0, q1, q2]) rfl ⟨by rw [HV.out], below_set (below_set (below_set HB.out _ _) _ _) _ _⟩
  obtain ⟨T2, hT2⟩ : ∃ T, g.to t (d - 1) = T := ⟨_, rfl⟩
  have HT2 := Lib.hid hT2
  rw [hT2] at HGo h2
  clear hT2
  have k2 : (T2 == -1) = false := by simp [h2]
  by_cases h3 : g.to t ((d + 1) % 8) = -1
  · have HV := Lib.hid (none_ (by rw [HGo.out, if_neg h1, if_neg he, if_pos (.inr h3)]))
    have H2 := Lib.hid h3
    clear h3 none_
    go_enter Tryd.func13, Tryd.ntmps13
    go_wp2_with fail
    refine (fre_any HA.out HG2.out t).mono ?_
    rintro e w1 ⟨rfl, rfl⟩
    rw [HF.out]
    go_wp2_with fail
    refine (to_any ok HA.out HG2.out HF.out hd8).mono ?_
    rintro e w1 ⟨rfl, hb⟩
    rw [HTd.out]
    have HO := Lib.hid (step_own HS.out _ hb)
    have HB := Lib.hid (below_own hb)
    clear hb
    go_wp2_with fail
    rw [HM.out.1]
    refine (to_any ok HO.out (HG.out.mono (fun x h => .tail _ h)) HF.out (d := d - 1) (by omega)).mono ?_
    rintro e w2 ⟨rfl, hb⟩
    rw [HT2.out]
    have HB := Lib.hid (HB.out.trans (hb.mono HB.out.size))
    have HO := Lib.hid (HO.out.below hb)
    clear hb
    go_wp2_with fail
    rw [HM.out.2]
    refine (to_any ok HO.out (HG.out.mono (fun x h => .tail _ h)) HF.out (d := (d + 1) % 8) (by omega)).mono ?_
    rintro e w3 ⟨rfl, hb⟩
    rw [H2.out]
    have HB := Lib.hid (HB.out.trans (hb.mono HB.out.size))
    have HO := Lib.hid (HO.out.below hb)
    have hz0 := HO.out.cell (off := 0) (.head _) rfl
    have hz1 := HO.out.cell (off := 1) (.head _) rfl
    have hz2 := HO.out.cell (off := 2) (.head _) rfl
    have hzf : ∀ o, w3.frozen? ⟨w.heap.size, o, none⟩ = false := fun o => HO.out.free (.head _)
    have hzl := HO.out.lt (.head _)
    clear hb
    go_wp2_with fail
    have h3 := ((HO.out.setCell 0 (.int .i64 0)).setCell 1 (.int .i64 0)).setCell 2 (.int .i64 0)
    have q0 : _ = some (Value.int .i64 0) := h3.cell (off := 0) (.head _) rfl
    have q1 : _ = some (Value.int .i64 0) := h3.cell (off := 1) (.head _) rfl
    have q2 : _ = some (Value.int .i64 0) := h3.cell (off := 2) (.head _) rfl
    exact bodyPost_ret (v := .tuple #[.agg #[.int .i64 0, .int .i64 0, .int .i64 0], .bool false]) (by simp [results, Tryd.results13, go_sem, q0, q1, q2]) rfl ⟨by rw [HV.out], below_set (below_set (below_set HB.out _ _) _ _) _ _⟩
  obtain ⟨T3, hT3⟩ : ∃ T, g.to t ((d + 1) % 8) = T := ⟨_, rfl⟩
  have HT3 := Lib.hid hT3
  rw [hT3] at HGo h3
  clear hT3
  have k3 : (T3 == -1) = false := by simp [h3]
  · have hgo : g.go t d = T := by rw [HGo.out, if_neg h1, if_neg he, if_neg (fun h => h.elim h2 h3)]
    have HV : Hid (stepV g t d = .tuple #[.agg #[.int .i64 d, .int .i64 T, .int .i64 14], .bool true]) := by
      show stepV g t d = _
      unfold stepV costN
      rw [hgo, if_neg h1, if_neg he]
    clear hgo none_
    go_enter Tryd.func13, Tryd.ntmps13
    go_wp2_with fail
    refine (fre_any HA.out HG2.out t).mono ?_
    rintro e w1 ⟨rfl, rfl⟩
    rw [HF.out]
    go_wp2_with fail
    refine (to_any ok HA.out HG2.out HF.out hd8).mono ?_
    rintro e w1 ⟨rfl, hb⟩
    rw [HTd.out]
    have HO := Lib.hid (step_own HS.out _ hb)
    have HB := Lib.hid (below_own hb)
    clear hb
    go_wp2_with fail
    rw [HM.out.1]
    refine (to_any ok HO.out (HG.out.mono (fun x h => .tail _ h)) HF.out (d := d - 1) (by omega)).mono ?_
    rintro e w2 ⟨rfl, hb⟩
    rw [HT2.out]
    have HB := Lib.hid (HB.out.trans (hb.mono HB.out.size))
    have HO := Lib.hid (HO.out.below hb)
    clear hb
    go_wp2_with fail
    rw [HM.out.2]
    refine (to_any ok HO.out (HG.out.mono (fun x h => .tail _ h)) HF.out (d := (d + 1) % 8) (by omega)).mono ?_
    rintro e w3 ⟨rfl, hb⟩
    rw [HT3.out]
    have HB := Lib.hid (HB.out.trans (hb.mono HB.out.size))
    have HO := Lib.hid (HO.out.below hb)
    have hz0 := HO.out.cell (off := 0) (.head _) rfl
    have hz1 := HO.out.cell (off := 1) (.head _) rfl
    have hz2 := HO.out.cell (off := 2) (.head _) rfl
    have hzf : ∀ o, w3.frozen? ⟨w.heap.size, o, none⟩ = false := fun o => HO.out.free (.head _)
    have hzl := HO.out.lt (.head _)
    clear hb
    go_wp2_with fail
    have h3 := ((HO.out.setCell 0 (.int .i64 d)).setCell 1 (.int .i64 T)).setCell 2 (.int .i64 14)
    have q0 : _ = some (Value.int .i64 d) := h3.cell (off := 0) (.head _) rfl
    have q1 : _ = some (Value.int .i64 T) := h3.cell (off := 1) (.head _) rfl
    have q2 : _ = some (Value.int .i64 14) := h3.cell (off := 2) (.head _) rfl
    exact bodyPost_ret (v := .tuple #[.agg #[.int .i64 d, .int .i64 T, .int .i64 14], .bool true]) (by simp [results, Tryd.results13, go_sem, q0, q1, q2]) rfl ⟨by rw [HV.out], below_set (below_set (below_set HB.out _ _) _ _) _ _⟩

theorem go_none (ok : GdOk g) (hS : SH W w L) (hG : GdIn L p g) {t d : Int} (h : g.go t d = -1) :
    Calls Tryd.prog 13 #[.pointer (some ⟨p, 0, none⟩), .int .i64 t, .int .i64 d] w fun e w' => e = .returned (.tuple #[.agg #[.int .i64 0, .int .i64 0, .int .i64 0], .bool false]) ∧ Below w.heap.size w w' := by
  have := go_any ok hS hG t d
  unfold stepV at this
  rw [if_pos h] at this
  exact this
theorem go_some (ok : GdOk g) (hS : SH W w L) (hG : GdIn L p g) {t d : Int} (h : g.go t d ≠ -1) :
    Calls Tryd.prog 13 #[.pointer (some ⟨p, 0, none⟩), .int .i64 t, .int .i64 d] w fun e w' => e = .returned (.tuple #[.agg #[.int .i64 d, .int .i64 (g.go t d), .int .i64 (costN d)], .bool true]) ∧ Below w.heap.size w w' := by
  have := go_any ok hS hG t d
  unfold stepV at this
  rw [if_neg h] at this
  exact this
end
end Go.Proofs.YtmabanabdoalaaaDoor
