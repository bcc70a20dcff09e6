/- The laws on jumps: made. -/
import Derived.Test.YtmabanabdoalaaaDoorMd
namespace Go.Proofs.YtmabanabdoalaaaDoor
open Go.RowKit

/-- a ground and its model, or neither -/
def MadeP (W : World) (L : List (Nat × Obj)) (e : Ending) (w' : World) : Prop :=
  (∃ p m g M, e = .returned (.tuple #[.pointer (some ⟨p, 0, none⟩), .pointer (some ⟨m, 0, none⟩), .bool true]) ∧ GdOk g ∧ g.fr.length ≤ 256 ∧ GdIn (M ++ L) p g ∧ RgIn (M ++ L) m g ∧ SH W w' (M ++ L)) ∨
  (e = .returned (.tuple #[.pointer none, .pointer none, .bool false]) ∧ SH W w' L)
theorem u64_nat {n : Nat} (hn : n ≤ 100000) : IntKind.u64.wrap (n : Int) = n := by
  simp [IntKind.wrap, IntKind.bits, IntKind.signed]; omega
theorem idx_of (x : Int) {n : Nat} (h0 : 0 < n) (hn : n ≤ 100000) : ∃ j : Nat, j < n ∧ wrap64 ((IntKind.u64.wrap x).tmod (n : Int)) = j := by
  have h1 : 0 ≤ IntKind.u64.wrap x := Int.emod_nonneg _ (by decide)
  have h2 : (IntKind.u64.wrap x).tmod (n : Int) = IntKind.u64.wrap x % n := Int.tmod_eq_emod_of_nonneg h1
  have h3 : 0 ≤ IntKind.u64.wrap x % n := Int.emod_nonneg _ (by omega)
  have h4 : IntKind.u64.wrap x % n < n := Int.emod_lt_of_pos _ (by omega)
  refine ⟨(IntKind.u64.wrap x % n).toNat, by omega, ?_⟩
  rw [h2]
  generalize IntKind.u64.wrap x % (n : Int) = y at h3 h4 ⊢
  unfold wrap64
  omega
theorem infoInt : (Tryd.prog.info? 3).map (fun i => (i.zero, i.size, i.bytes)) = some (some (.int .i64 0), 1, 8) := by kernel_rfl
theorem newsAt {W w : World} {L : List (Nat × Obj)} {b n : Nat} {news : List Value} {E : TypeId} (h : SH W w ((b, .cells news.toArray E) :: L)) (hb : b = n) : ∀ j u, news[j]? = some u → w.cell? ((⟨n, 0, none⟩ : Addr).add j) = some u := by
  subst hb
  intro j u hu
  rw [add_plain', Nat.zero_add]
  exact h.cell (.head _) (by simpa using hu)
theorem row_ptr {r n cap : Nat} {xs : List Value} {sp : List Value} (ok : rowOk 1 n xs (some (r, cap, sp))) {ys : List Int} (hy : xs = flatI ys) (hl : ys.length = n) {L : List (Nat × Obj)} : Sl encI 1 (rowL 3 xs (some (r, cap, sp)) ++ L) (.slice (some ⟨r, 0, none⟩) n cap) ys := by
  subst hy hl
  obtain ⟨h1, h2, h3, h4⟩ := ok
  refine ⟨_, cap, rfl, h3, .inr ⟨r, 0, _, _, _, rfl, .head _, fun i x hx j u hu => ?_⟩⟩
  simp only [encI, Nat.zero_add, Nat.mul_one] at hu ⊢
  have hj : j = 0 := by
    have := (List.getElem?_eq_some_iff.1 hu).1
    simp at this; exact this
  subst hj
  simp at hu
  subst hu
  exact flatI_get hx

section
variable {W w : World} {L : List (Nat × Obj)}
set_option maxHeartbeats 1600000 in
set_option maxRecDepth 100000 in
theorem made_any (hS : SH W w L) (a : Gr) {v : Value} {xs : List Int} (hx : Sl encI 1 L v xs) :
    Calls Tryd.prog 10 #[a.val, v] w (MadeP W L) := by
  have HX := Lib.hid hx
  obtain ⟨ao, c, rfl, hc, hsl⟩ := hx
  have HL := Lib.hid hsl
  have HS := Lib.hid hS
  clear hsl
  have HA := Lib.hid (hS.alloc (.cells #[.int .i64 a.w, .int .i64 a.h, .int .i64 a.s, .int .i64 a.x, .int .i64 a.y] 23))
  clear hS
  by_cases ha : a.ok = true
  case neg =>
    have HO := Lib.hid (show a.ok = false by simpa using ha)
    clear ha
    obtain ⟨gw, gh, gs, gx, gy⟩ := a
    simp only [Gr.val] at HA ⊢
    go_enter Tryd.func10, Tryd.ntmps10
    go_wp2_with fail
    refine (right14_any ⟨gw, gh, gs, gx, gy⟩ _).mono ?_
    rintro e w1 ⟨rfl, hb⟩
    rw [HO.out]
    have HB := Lib.hid (HA.out.below hb)
    clear hb
    go_wp2_with fail
    go_ret3
    exact .inr ⟨rfl, HB.out.tail⟩
  have hb := gr_ok ha
  have HO := Lib.hid ha
  clear ha
  obtain ⟨gw, gh, gs, gx, gy⟩ := a
  simp only at hb
  obtain ⟨gw, rfl⟩ := Int.eq_ofNat_of_zero_le (show 0 ≤ gw by omega)
  obtain ⟨gh, rfl⟩ := Int.eq_ofNat_of_zero_le (show 0 ≤ gh by omega)
  obtain ⟨b1, b2, b3, b4, _⟩ := hb
  obtain ⟨N, hN⟩ : ∃ N, gw * gh = N := ⟨_, rfl⟩
  have hNi : (gw : Int) * (gh : Int) = (N : Int) := by rw [← hN]; simp
  have hN1 : N ≤ 1024 := by rw [← hN]; exact mul_le_1024 (by omega) (by omega)
  have hN0 : 0 < N := by rw [← hN]; exact Nat.mul_pos (by omega) (by omega)
  have hwr : IntKind.i64.wrap ((gw : Int) * (gh : Int)) = (N : Int) := by rw [hNi]; simp [IntKind.wrap, IntKind.bits, IntKind.signed]; omega
  have HN := Lib.hid (And.intro hN (And.intro hNi hwr))
  clear hN hNi hwr
  simp only [Gr.val] at HO HA ⊢
  go_enter Tryd.func10, Tryd.ntmps10
  go_wp2_with fail
  refine (right14_any ⟨gw, gh, gs, gx, gy⟩ _).mono ?_
  rintro e w1 ⟨rfl, hb⟩
  rw [HO.out]
  have HB := Lib.hid (HA.out.below hb)
  have c0 := HB.out.cell (off := 0) (.head _) rfl
  have c1 := HB.out.cell (off := 1) (.head _) rfl
  have hl1 := HB.out.lt (.head _)
  have hwr := HN.out.2.2
  clear hb
  by_cases hbig : 256 < N
  · have k1 : (256 : Int) < (N : Int) := by omega
    go_wp2_with fail
    go_ret3
    exact .inr ⟨rfl, HB.out.tail⟩
  have k1 : decide ((256 : Int) < (N : Int)) = false := decide_eq_false (by omega)
  by_cases hlong : 300 < xs.length
  · have k2 : (300 : Int) < (xs.length : Int) := by omega
    go_wp2_with fail
    go_ret3
    exact .inr ⟨rfl, HB.out.tail⟩
  have k2 : decide ((300 : Int) < (xs.length : Int)) = false := decide_eq_false (by omega)
  have hn : xs.length ≤ 300 := by omega
  clear hlong
  go_wp2_with fail
  have HC := Lib.hid (HB.out.alloc (.cells #[] 3))
  clear HA HS c0 c1 hl1 hwr k1 k2
  obtain ⟨i0, hi1, hz0, hz1, hz2⟩ := info_parts infoInt
  have HI := Lib.hid (And.intro hi1 (And.intro hz0 (And.intro hz1 hz2)))
  clear hi1 hz0 hz1 hz2
  go_loopw [7, 31] (fun s i wr => ∃ (k r cap : Nat) (sp : List Value), s = .slice (some ⟨r, 0, none⟩) k cap ∧ i = .int .i64 k ∧ k ≤ xs.length ∧ Hid (∃ ys : List Int, ys.length = k ∧ (∀ y ∈ ys, 0 ≤ y ∧ y < N) ∧ rowOk 1 k (flatI ys) (some (r, cap, sp)) ∧ SH W wr (rowL 3 (flatI ys) (some (r, cap, sp)) ++ ((w.heap.size, .cells #[.int .i64 gw, .int .i64 gh, .int .i64 gs, .int .i64 gx, .int .i64 gy] 23) :: L)))) (fun _ i _ => xs.length - (intOf i).toNat)
  case atStart => exact ⟨0, w1.heap.size, 0, [], rfl, rfl, Nat.zero_le _, [], rfl, by simp, ⟨rfl, rfl, Nat.le_refl _, Nat.zero_le _⟩, HC.out⟩
  case round =>
    obtain ⟨k, r, cap, sp, rfl, rfl, hk, H⟩ := hrel
    clear HC
    obtain ⟨ys, hyl, hyb, hok, hS⟩ := H.out
    clear H
    by_cases hlt : k < xs.length
    · obtain ⟨x, hxk⟩ : ∃ x, xs[k]? = some x := ⟨xs[k], by simp [hlt]⟩
      rcases HL.out with h0 | ⟨b, off, cc, E, fr, rfl, hm, hcell⟩
      · rw [h0] at hlt; simp at hlt
      have hc0 : wr.cell? ⟨b, off + k, none⟩ = some (.int .i64 x) := hS.cell (.tail _ (.tail _ hm)) (by simpa using hcell k _ hxk 0 _ rfl)
      obtain ⟨j, hj, hJ⟩ := idx_of x hN0 (by omega)
      have hu := u64_nat (n := N) (by omega)
      have hwr := HN.out.2.2
      have c0 := hS.cell (off := 0) (.tail _ (.head _)) rfl
      have c1 := hS.cell (off := 1) (.tail _ (.head _)) rfl
      have hkr : rowV k (some (r, cap, sp)) = .slice (some ⟨r, 0, none⟩) k cap := rfl
      have HA := Lib.hid (hS.alloc (.cells #[.int .i64 j] 3))
      have HQ := Lib.hid (And.intro hyl (And.intro hyb hok))
      have hnz : ((N : Int) == 0) = false := by simp; omega
      clear hxk hm hcell hS hyl hyb hok hkr
      go_wp2_with (at_builtin; refine wpList_append_sh (st := some (r, cap, sp)) (L := (w.heap.size, .cells #[.int .i64 gw, .int .i64 gh, .int .i64 gs, .int .i64 gx, .int .i64 gy] 23) :: L) rfl (.tmp 35) (.tmp 46) 24 rfl i0 _ 8 Tryd.underlying24 HI.out.1 HI.out.2.1 HI.out.2.2.1 HI.out.2.2.2 rfl (by decide) HA.out.tail HQ.out.2.2 rfl _ 1 1 [.int .i64 j] rfl rfl (newsAt HA.out (by simp)) (by intro u hu; simp at hu; subst hu; rfl) (by decide) (by unfold maxLen; omega) (by omega) ?_; intro g cap' sp' w4 ok1 hS1; have HG := Lib.hid (And.intro ok1 hS1); clear ok1 hS1 HA hc0 hJ hu hwr c0 c1 hnz)
      have e1 : flatI ys ++ [.int .i64 (j : Int)] = flatI (ys ++ [(j : Int)]) := by rw [flatI_append]; rfl
      have HF : Hid (∃ zs : List Int, zs.length = k + 1 ∧ (∀ y ∈ zs, 0 ≤ y ∧ y < N) ∧ rowOk 1 (k + 1) (flatI zs) (some (g, cap', sp')) ∧ SH W w4 (rowL 3 (flatI zs) (some (g, cap', sp')) ++ ((w.heap.size, .cells #[.int .i64 gw, .int .i64 gh, .int .i64 gs, .int .i64 gx, .int .i64 gy] 23) :: L))) := by
        have h1 := HG.out
        rw [e1] at h1
        refine ⟨ys ++ [(j : Int)], by simp [HQ.out.1], fun y hy => ?_, h1.1, h1.2⟩
        rcases List.mem_append.1 hy with hy | hy
        · exact HQ.out.2.1 y hy
        · simp at hy; omega
      clear e1 HG HQ
      go_wp2_with fail
      go_roundw
      case rel => exact ⟨k + 1, g, cap', sp', rfl, by go_num, by omega, HF⟩
      case measure => simp [intOf]; omega
    · have hk2 : k = xs.length := by omega
      have HQ := Lib.hid (And.intro hyl (And.intro hyb (And.intro hok hS)))
      have c0 := hS.cell (off := 0) (.tail _ (.head _)) rfl
      have c1 := hS.cell (off := 1) (.tail _ (.head _)) rfl
      have c2 := hS.cell (off := 2) (.tail _ (.head _)) rfl
      have c3 := hS.cell (off := 3) (.tail _ (.head _)) rfl
      have c4 := hS.cell (off := 4) (.tail _ (.head _)) rfl
      have hl1 := hS.lt (.tail _ (.head _))
      have HP := Lib.hid (row_ptr (L := (w.heap.size, .cells #[.int .i64 gw, .int .i64 gh, .int .i64 gs, .int .i64 gx, .int .i64 gy] 23) :: L) hok rfl hyl)
      clear hk2 hyl hyb hok hS
      go_wp2_with fail
      refine (of_ok HQ.out.2.2.2 HO.out HP.out (by rw [HQ.out.1]; omega) (fun y hy => by rw [HN.out.2.1]; exact HQ.out.2.1 y hy)).mono ?_
      rintro e w4 ⟨p, r4, rfl, hS4⟩
      have HS4 := Lib.hid hS4
      have hm4 : (w.heap.size, Obj.cells #[.int .i64 gw, .int .i64 gh, .int .i64 gs, .int .i64 gx, .int .i64 gy] 23 (0, 0)) ∈ gdL p r4 (ofG ⟨gw, gh, gs, gx, gy⟩ ys) ++ (rowL 3 (flatI ys) (some (r, cap, sp)) ++ ((w.heap.size, .cells #[.int .i64 gw, .int .i64 gh, .int .i64 gs, .int .i64 gx, .int .i64 gy] 23) :: L)) := by simp
      have c0 := hS4.cell (off := 0) hm4 rfl
      have c1 := hS4.cell (off := 1) hm4 rfl
      have c2 := hS4.cell (off := 2) hm4 rfl
      have c3 := hS4.cell (off := 3) hm4 rfl
      have c4 := hS4.cell (off := 4) hm4 rfl
      have hl1 := hS4.lt hm4
      clear hS4 hm4
      go_wp2_with fail
      refine (new16_ok HS4.out HO.out (HP.out.mono (fun x h => List.mem_append_right _ h)) (by rw [HQ.out.1]; omega)).mono ?_
      rintro e w5 ⟨m, r5, rfl, hS5⟩
      have HS5 := Lib.hid hS5
      clear hS5 c0 c1 c2 c3 c4 hl1
      go_wp2_with fail
      go_ret3
      refine .inl ⟨p, m, ofG ⟨gw, gh, gs, gx, gy⟩ ys, rgL m r5 (ofG ⟨gw, gh, gs, gx, gy⟩ ys) ++ (gdL p r4 (ofG ⟨gw, gh, gs, gx, gy⟩ ys) ++ (rowL 3 (flatI ys) (some (r, cap, sp)) ++ [(w.heap.size, .cells #[.int .i64 gw, .int .i64 gh, .int .i64 gs, .int .i64 gx, .int .i64 gy] 23)])), rfl, ofG_ok HO.out _, ?_, ?_, ?_, ?_⟩
      · simp only [ofG, mkB_len]
        have := HN.out.1
        simp only [Int.toNat_natCast]
        omega
      · exact ⟨r4, by simp [gdL, gdO], by simp [gdL, frO]⟩
      · exact ⟨r5, by simp [rgL], by simp [rgL]⟩
      · simpa using HS5.out
end
end Go.Proofs.YtmabanabdoalaaaDoor
