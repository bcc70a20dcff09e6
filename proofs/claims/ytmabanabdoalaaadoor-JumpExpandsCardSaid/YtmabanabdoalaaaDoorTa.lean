/- paddocknum.Ints: a copy with marked room behind. -/
import Derived.Test.YtmabanabdoalaaaDoorSb
namespace Go.Proofs.YtmabanabdoalaaaDoor
open Go.RowKit

theorem run_make0 {P : Program} (t e : TypeId) (i : TypeInfo) (z : Value) (ht : P.underlying t = some (.slice e)) (hi : P.info? e = some i) (hz : i.zero = some z) (hs : i.size = 1) (hzs : z.cells = #[z]) (hby : i.bytes ≤ 16) (n : Nat) (hn : n ≤ 1000000) (w : World) :
    (Instr.makeSlice t (.int .i64 0) (.int .i64 n)).run P w = .ok (.slice (some ⟨w.heap.size, 0, none⟩) 0 n) (w.alloc (.cells (Array.replicate n z) e)) := by
  have hb : (i.bytes : Int) * (n : Int) ≤ 281474976710656 := by
    have : (i.bytes : Int) * (n : Int) ≤ 16 * 1000000 := Int.mul_le_mul (by omega) (by omega) (by omega) (by omega)
    omega
  have := run_make (P := P) w t e i z ht hi hz .i64 .i64 0 n (Int.le_refl _) (by omega) hb (by omega)
  simp only [Int.toNat_natCast, Int.toNat_zero, hs, Nat.mul_one] at this
  rw [this]
  congr 3
  apply Array.ext
  · simp [madeCells]
  · intro j h1 h2
    simp [madeCells, hzs, Nat.mod_one]
theorem row_prefix {L : List (Nat × Obj)} {r n cap : Nat} {xs ys : List Int} {sp : List Value} (ok : rowOk 1 n (flatI (xs ++ ys)) (some (r, cap, sp))) : Sl encI 1 (rowL 3 (flatI (xs ++ ys)) (some (r, cap, sp)) ++ L) (.slice (some ⟨r, 0, none⟩) xs.length cap) xs := by
  obtain ⟨h1, h2, h3, h4⟩ := ok
  have hn : n = xs.length + ys.length := by
    rw [flatI_len] at h1
    simp at h1; omega
  refine ⟨_, cap, rfl, by omega, .inr ⟨r, 0, _, _, _, rfl, .head _, fun i x hx j u hu => ?_⟩⟩
  simp only [encI, Nat.zero_add, Nat.mul_one] at hu ⊢
  have hj : j = 0 := by
    have := (List.getElem?_eq_some_iff.1 hu).1
    simp at this; exact this
  subst hj
  simp at hu
  subst hu
  refine flatI_get ?_
  rw [Nat.add_zero, List.getElem?_append_left (List.getElem?_eq_some_iff.1 hx).1]
  exact hx

/-- a copy of a list -/
def CopyP (W : World) (L : List (Nat × Obj)) (xs : List Int) (e : Ending) (w' : World) : Prop :=
  ∃ v M, e = .returned v ∧ Sl encI 1 (M ++ L) v xs ∧ SH W w' (M ++ L)
theorem sl_news {W w : World} {L : List (Nat × Obj)} {b : Addr} {n c : Nat} {xs : List Int} (hS : SH W w L) (h : Sl encI 1 L (.slice (some b) n c) xs) : ∀ j u, (flatI xs)[j]? = some u → w.cell? (b.add j) = some u := by
  obtain ⟨a, c', h1, _, h3⟩ := h
  simp only [Value.slice.injEq] at h1
  obtain ⟨rfl, rfl, rfl⟩ := h1
  intro j u hu
  rcases h3 with rfl | ⟨b', off, cc, E, fr, hb, hm, hc⟩
  · simp [flatI] at hu
  · have hb := Option.some.inj hb
    subst hb
    rw [flatI_map, List.getElem?_map] at hu
    obtain ⟨x, hx, rfl⟩ := Option.map_eq_some_iff.1 hu
    rw [add_plain']
    exact hS.cell hm (by simpa using hc j x hx 0 _ rfl)

def marks : List Int := [-91, -92, -93, -94]
def marksV : List Value := [.int .i64 (-91), .int .i64 (-92), .int .i64 (-93), .int .i64 (-94)]
theorem marks_eq : flatI marks = marksV := rfl
section
variable {W w : World} {L : List (Nat × Obj)}
set_option maxHeartbeats 1600000 in
set_option maxRecDepth 100000 in
theorem ints_any (hS : SH W w L) {v : Value} {xs : List Int} (hx : Sl encI 1 L v xs) (hn : xs.length ≤ 100000) :
    Calls Tryd.prog 15 #[v] w (CopyP W L xs) := by
  have HX := Lib.hid hx
  obtain ⟨ao, c, rfl, _, hsl⟩ := hx
  obtain ⟨i0, hi1, hz0, hz1, hz2⟩ := info_parts infoInt
  have HI := Lib.hid (And.intro hi1 (And.intro hz0 (And.intro hz1 hz2)))
  obtain ⟨n, hnn⟩ : ∃ n, xs.length = n := ⟨_, rfl⟩
  rw [hnn] at hn HX ⊢
  have hmk : ∀ w, (Instr.makeSlice 24 (.int .i64 0) (.int .i64 ((n : Int) + 4))).run Tryd.prog w = .ok (.slice (some ⟨w.heap.size, 0, none⟩) 0 (n + 4)) (w.alloc (.cells (Array.replicate (n + 4) (.int .i64 0)) 3)) := fun w => by
    have := run_make0 (P := Tryd.prog) 24 3 i0 (.int .i64 0) Tryd.underlying24 hi1 hz0 hz1 rfl (by omega) (n + 4) (by omega) w
    simpa using this
  have Hn := Lib.hid hnn
  have hrow0 : SH W (w.alloc (.cells (Array.replicate (n + 4) (Value.int .i64 0)) 3)) (rowL 3 (flatI []) (some (w.heap.size, n + 4, List.replicate (n + 4) (Value.int .i64 0))) ++ L) := by
    have := hS.alloc (.cells (Array.replicate (n + 4) (Value.int .i64 0)) 3)
    simpa [rowL, flatI] using this
  have H0 := Lib.hid (And.intro hrow0 (show rowOk 1 0 (flatI []) (some (w.heap.size, n + 4, List.replicate (n + 4) (Value.int .i64 0))) from ⟨rfl, by simp [flatI], by omega, by unfold maxLen; omega⟩))
  clear hi1 hz0 hz1 hz2 hS hnn hrow0
  by_cases h0 : n = 0
  · have hxs : xs = [] := List.eq_nil_of_length_eq_zero (Hn.out.trans h0)
    have HE := Lib.hid hxs
    subst h0
    have hmk4 : ∀ w, (Instr.makeSlice 24 (.int .i64 0) (.int .i64 4)).run Tryd.prog w = .ok (.slice (some ⟨w.heap.size, 0, none⟩) 0 4) (w.alloc (.cells (Array.replicate 4 (.int .i64 0)) 3)) := fun w => hmk w
    clear hxs hsl hmk
    go_enter Tryd.func15, Tryd.ntmps15
    have HD := Lib.hid (And.intro (H0.out.1.alloc (.cells marksV.toArray 3)) H0.out.2)
    go_wp2_with (at_builtin; first | (refine wpList_append_zero rfl (.tmp 7) (.tmp 8) 24 rfl i0 Tryd.underlying24 HI.out.1 (some ⟨w.heap.size, 0, none⟩) 0 4 (by omega) rfl ao c rfl ?_) | (refine wpList_append_sh (st := some (w.heap.size, 4, List.replicate 4 (Value.int .i64 0))) (L := L) rfl (.tmp 9) (.tmp 10) 24 rfl i0 _ 8 Tryd.underlying24 HI.out.1 HI.out.2.1 HI.out.2.2.1 HI.out.2.2.2 rfl (by decide) HD.out.1.tail HD.out.2 rfl _ 4 4 marksV rfl rfl (newsAt HD.out.1 (by simp)) (by intro u hu; simp [marksV] at hu; rcases hu with rfl | rfl | rfl | rfl <;> rfl) (by decide) (by unfold maxLen; omega) (by omega) ?_; intro g2 cap2 sp2 w2 ok2 hS2; have HG2 := Lib.hid (And.intro ok2 hS2); have hcap2 : 0 + 4 ≤ cap2 := ok2.2.2.1; clear ok2 hS2 HD))
    have hxs := HE.out
    subst hxs
    go_ret
    have h1 := HG2.out
    rw [← marks_eq, ← flatI_append] at h1
    refine ⟨_, rowL 3 (flatI ([] ++ marks)) (some (g2, cap2, sp2)), rfl, ?_, ?_⟩
    · have h2 := row_prefix (L := L) h1.1
      rw [Hn.out] at h2
      exact h2
    · exact h1.2
  · have hpos : 0 < n := by omega
    rcases hsl with h | ⟨b, off, cc, E, fr, rfl, hm, hcell⟩
    · rw [h] at Hn; exact absurd Hn.out.symm h0
    have hnews := sl_news H0.out.1 (HX.out.mono (fun x h => List.mem_append_right _ h))
    have hone := flatI_one xs
    have hlen : (flatI xs).length = n * 1 := by rw [flatI_len, Hn.out]; omega
    have HNw := Lib.hid (And.intro hnews (And.intro hone hlen))
    clear hm hcell h0 hnews hone hlen
    go_enter Tryd.func15, Tryd.ntmps15
    go_wp2_with (at_builtin; first | (refine wpList_append_sh (st := some (w.heap.size, n + 4, List.replicate (n + 4) (Value.int .i64 0))) (L := L) rfl (.tmp 7) (.tmp 8) 24 rfl i0 _ 8 Tryd.underlying24 HI.out.1 HI.out.2.1 HI.out.2.2.1 HI.out.2.2.2 rfl (by decide) H0.out.1 H0.out.2 rfl _ n c (flatI xs) rfl HNw.out.2.2 HNw.out.1 HNw.out.2.1 hpos (by unfold maxLen; omega) (by omega) ?_; intro g1 cap1 sp1 w1 ok1 hS1; rw [Nat.zero_add, show flatI [] ++ flatI xs = flatI xs from rfl] at ok1; rw [show flatI [] ++ flatI xs = flatI xs from rfl] at hS1; rw [Nat.zero_add]; have HD := Lib.hid (And.intro (hS1.alloc (.cells marksV.toArray 3)) ok1); clear ok1 hS1) | (refine wpList_append_sh (st := some (g1, cap1, sp1)) (L := L) rfl (.tmp 9) (.tmp 10) 24 rfl i0 _ 8 Tryd.underlying24 HI.out.1 HI.out.2.1 HI.out.2.2.1 HI.out.2.2.2 rfl (by decide) HD.out.1.tail HD.out.2 rfl _ 4 4 marksV rfl rfl (newsAt HD.out.1 (by simp)) (by intro u hu; simp [marksV] at hu; rcases hu with rfl | rfl | rfl | rfl <;> rfl) (by decide) (by unfold maxLen; omega) (by omega) ?_; intro g2 cap2 sp2 w2 ok2 hS2; have HG2 := Lib.hid (And.intro ok2 hS2); have hcap2 : n + 4 ≤ cap2 := ok2.2.2.1; clear ok2 hS2 HD))
    go_ret
    have h1 := HG2.out
    rw [← marks_eq, ← flatI_append] at h1
    refine ⟨_, rowL 3 (flatI (xs ++ marks)) (some (g2, cap2, sp2)), rfl, ?_, ?_⟩
    · have h2 := row_prefix (L := L) h1.1
      rw [Hn.out] at h2
      exact h2
    · exact h1.2
end
end Go.Proofs.YtmabanabdoalaaaDoor
