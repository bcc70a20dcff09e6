/- Package heap: what Push does. -/
import Derived.Test.YtmabanabdoalaaaDoorHpC
import Derived.Test.YtmabanabdoalaaaDoorRow
namespace Go.Proofs.YtmabanabdoalaaaDoor
open Go.RowKit

theorem infoEntry : (Tryd.prog.info? 110).map (fun i => (i.zero, i.size, i.bytes)) = some (some (.agg #[.int .i64 0, .int .i64 0]), 2, 16) := by kernel_rfl
/-- a heap at p that holds es, beside L -/
def HpIs (p : Nat) (es : List (Int × Int)) (M : List (Nat × Obj)) : Prop :=
  ∃ st, rowOk 2 es.length (flatE es) st ∧ M = (p, .cells #[rowV es.length st] 106 (0, 0)) :: rowL 110 (flatE es) st
abbrev HpAt (W w : World) (p : Nat) (es : List (Int × Int)) (L : List (Nat × Obj)) : Prop := Own (HpIs p es) W w L
theorem rowV_form {size n : Nat} {xs : List Value} {st : St} (ok : rowOk size n xs st) : ∃ ao cp, rowV n st = .slice ao n cp := by
  cases st with
  | none => exact ⟨none, 0, by rw [ok.1]; rfl⟩
  | some t => exact ⟨_, _, rfl⟩
def pushL (es : List (Int × Int)) (x : Int × Int) : List (Int × Int) := upL (es ++ [x]) es.length
theorem upL_len (es : List (Int × Int)) (i : Nat) : (upL es i).length = es.length := by
  induction es, i using upL.induct with
  | case1 es => rw [upL]; simp
  | case2 es i h h2 ih => rw [upL, dif_neg h, if_pos h2, ih, swp_len]
  | case3 es i h h2 => rw [upL, dif_neg h, if_neg h2]
theorem pushL_len (es : List (Int × Int)) (x : Int × Int) : (pushL es x).length = es.length + 1 := by rw [pushL, upL_len]; simp
theorem pushAll_len (xs es : List (Int × Int)) : (xs.foldl pushL es).length = es.length + xs.length := by
  induction xs generalizing es with
  | nil => rfl
  | cons x xs ih => rw [List.foldl_cons, ih, pushL_len]; simp; omega
theorem foldl_take_succ (xs es : List (Int × Int)) (k : Nat) (x : Int × Int) (h : xs[k]? = some x) : (xs.take (k + 1)).foldl pushL es = pushL ((xs.take k).foldl pushL es) x := by
  rw [List.take_add_one, h, List.foldl_append]; rfl

set_option maxHeartbeats 800000 in
theorem push_full {W w : World} {L : List (Nat × Obj)} {p : Nat} {es xs : List (Int × Int)} {v ef : Value} (hH : HpAt W w p es L) (hx : Sl encE 2 L v xs) (hE : Var L 3 ef) (hn : es.length ≤ 16384) (hbig : 16384 - es.length < xs.length) :
    Calls Tryd.prog 68 #[.pointer (some ⟨p, 0, none⟩), v] w fun e w' => e = .returned ef ∧ HpAt W w' p es L := by
  have HH := Lib.hid hH
  obtain ⟨_, ⟨st, ok, rfl⟩, hS⟩ := hH
  obtain ⟨ao, cp, hv⟩ := rowV_form ok
  have hp : w.cell? ⟨p, 0, none⟩ = some (.slice ao es.length cp) := hS.cell (.head _) (by simp [hv])
  have he : w.cell? ⟨3, 0, none⟩ = some ef := hE.cell HH.out.SH
  obtain ⟨a, c, rfl, _, _⟩ := hx
  clear hv ok hS
  have h1 : 16384 - (es.length : Int) < (xs.length : Int) := by omega
  go_enter Tryd.func68, Tryd.ntmps68
  go_wp2_with fail
  go_ret
  exact ⟨rfl, HH.out⟩

theorem newsAt {W w : World} {L : List (Nat × Obj)} {b n : Nat} {news : List Value} {E : TypeId} (h : SH W w ((b, .cells news.toArray E) :: L)) (hb : b = n) : ∀ j u, news[j]? = some u → w.cell? ((⟨n, 0, none⟩ : Addr).add j) = some u := by
  subst hb
  intro j u hu
  have e : (⟨b, 0, none⟩ : Addr).add j = ⟨b, j, none⟩ := by unfold Addr.add; split <;> simp_all
  rw [e]
  exact h.cell (.head _) (by simpa using hu)

set_option maxHeartbeats 3200000 in
set_option maxRecDepth 100000 in
theorem push_ok {W w : World} {L : List (Nat × Obj)} {p : Nat} {es xs : List (Int × Int)} {v : Value} (hH : HpAt W w p es L) (hx : Sl encE 2 L v xs) (hn : es.length + xs.length ≤ 16384) :
    Calls Tryd.prog 68 #[.pointer (some ⟨p, 0, none⟩), v] w fun e w' => e = .returned .nilIface ∧ HpAt W w' p (xs.foldl pushL es) L := by
  have HH := Lib.hid hH
  obtain ⟨_, ⟨st, ok, rfl⟩, hS⟩ := hH
  obtain ⟨ao, cp, hv⟩ := rowV_form ok
  have hp : w.cell? ⟨p, 0, none⟩ = some (.slice ao es.length cp) := hS.cell (.head _) (by simp [hv])
  obtain ⟨a, c, rfl, hc, hr⟩ := hx
  have HR := Lib.hid hr
  clear hv ok hS hr
  have h1 : (xs.length : Int) ≤ 16384 - (es.length : Int) := by omega
  obtain ⟨i0, hi, hz0, hz1, hz2⟩ := info_parts infoEntry
  have HI := Lib.hid (And.intro hi (And.intro hz0 (And.intro hz1 hz2)))
  clear hi hz0 hz1 hz2
  go_enter Tryd.func68, Tryd.ntmps68
  go_wp2_with fail
  clear hp
  go_loopw [19] (fun t wr => ∃ k : Nat, t = .int .i64 k ∧ k ≤ xs.length ∧ Hid (HpAt W wr p ((xs.take k).foldl pushL es) L)) (fun t _ => xs.length - (intOf t).toNat)
  case atStart => exact ⟨0, rfl, Nat.zero_le _, HH.out⟩
  case round =>
    obtain ⟨k, rfl, hk, H⟩ := hrel
    clear HH
    by_cases hlt : k < xs.length
    · obtain ⟨⟨kx, vx⟩, hxk⟩ : ∃ x, xs[k]? = some x := ⟨xs[k], by simp [hlt]⟩
      rcases HR.out with h0 | ⟨b, off, cc, E, fr, rfl, hm, hcell⟩
      · rw [h0] at hlt; simp at hlt
      obtain ⟨fs, hfs⟩ : ∃ fs, (xs.take k).foldl pushL es = fs := ⟨_, rfl⟩
      have hfl : fs.length = es.length + k := by rw [← hfs, pushAll_len]; simp; omega
      have Hfs := Lib.hid hfs
      rw [hfs] at H
      clear hfs
      obtain ⟨_, ⟨st, ok, rfl⟩, hS⟩ := H.out
      have hc0 : wr.cell? ⟨b, off + k * 2, none⟩ = some (.int .i64 kx) := hS.cell (.tail _ (List.mem_append.2 (.inr hm))) (hcell k _ hxk 0 _ rfl)
      have hc1 : wr.cell? ⟨b, off + k * 2 + 1, none⟩ = some (.int .i64 vx) := hS.cell (.tail _ (List.mem_append.2 (.inr hm))) (hcell k _ hxk 1 _ rfl)
      have hp : wr.cell? ⟨p, 0, none⟩ = some (rowV fs.length st) := hS.cell (.head _) rfl
      have hpw : p < wr.heap.size := hS.lt (.head _)
      have HS := Lib.hid hS
      have Hok := Lib.hid ok
      have Hxk := Lib.hid hxk
      have Hfl := Lib.hid hfl
      have hfb : fs.length ≤ 16383 := by omega
      clear hS ok hxk hfl HR hcell H
      go_wp2_with fail
      obtain ⟨h31, hz, hs2, hb16⟩ := HI.out
      have HA := Lib.hid (HS.out.alloc (.cells #[.int .i64 kx, .int .i64 vx] 110))
      have HB := Lib.hid (HA.out.alloc (.cells #[.int .i64 kx, .int .i64 vx] 110))
      clear h31 hz hs2 hb16
      go_region_law ((refine step_append_lies _ rfl _ _ 104 rfl 0 110 i0 _ 2 16 Tryd.underlying104 HI.out.1 HI.out.2.1 HI.out.2.2.1 HI.out.2.2.2 rfl (by decide) _ fs.length (flatE fs) rfl (SH.ownsRow (L := L) (HB.out.drew.tail.tail.tail) Hok.out) _ 1 1 [.int .i64 kx, .int .i64 vx] rfl rfl (newsAt HB.out.drew (by simp)) (by intro u hu; simp at hu; rcases hu with rfl | rfl <;> rfl) (by decide) (by unfold maxLen; omega) (by omega) (Nat.zero_le _) _ rfl ?_); intro g cap w1 hown hgrow hat hlt; obtain ⟨sp1, ok1, hS1⟩ := SH.appended (L := (p, .cells #[rowV fs.length st] 106 (0, 0)) :: L) (HB.out.drew.tail.tail.perm List.perm_middle.symm) hgrow rfl hown (hat.imp (fun h => h) (fun h => h.trans (by simp))); have hp1 := hS1.cell (off := 0) (.tail _ (.head _)) rfl; have hf1 := hS1.free (off := 0) (.tail _ (.head _)); have HS1 := Lib.hid (And.intro ok1 hS1); clear hown hgrow hat hS1 ok1)
      all_goals
        have hS2 : SH W (w1.setCell ⟨p, 0, none⟩ (.slice (some ⟨g, 0, none⟩) (fs.length + 1) cap)) (hpL p (fs ++ [(kx, vx)]) g cap sp1 ++ L) := by
          have := (HS1.out.2.perm (List.Perm.swap _ _ _)).setCell 0 (.slice (some ⟨g, 0, none⟩) (fs.length + 1) cap)
          simpa [hpL, flatE, encE] using this
        have HS2 := Lib.hid hS2
        clear hS2
        go_wp2_with fail
        refine (up_any _ HS2.out (by omega) (by simp; omega) (by simp; omega)).mono ?_
        rintro e w2 ⟨rfl, hS3⟩
        rw [Int.toNat_natCast] at hS3
        have H2 : Hid (HpAt W w2 p ((xs.take (k + 1)).foldl pushL es) L) := by
          rw [foldl_take_succ _ _ _ _ Hxk.out, Hfs.out]
          refine ⟨_, ⟨some (g, cap, sp1), ?_, rfl⟩, ?_⟩
          · have := HS1.out.1
            simp only [rowOk, flatE_len, pushL_len] at this ⊢
            obtain ⟨a1, a2, a3, a4⟩ := this
            refine ⟨trivial, ?_, a3, a4⟩
            simp only [List.length_append, flatE_len, pushL_len, List.length_cons, List.length_nil] at a2 ⊢
            omega
          · rw [pushL_len]
            have := hS3
            simpa [hpL, rowL, rowV, pushL, upL_len] using this
        clear hS3 HS2 HS1 HA HB HS hp1 hf1 Hxk Hfs
        go_wp2_with fail
        go_roundw
        case rel => exact ⟨k + 1, by go_num, by omega, H2⟩
        case measure => simp [intOf]; omega
    · have hk2 : k = xs.length := by omega
      have H2 : Hid (HpAt W wr p (xs.foldl pushL es) L) := by
        have := H.out
        rw [hk2, List.take_length] at this
        exact this
      clear H hk2
      go_wp2_with fail
      go_ret
      exact ⟨rfl, H2.out⟩
end Go.Proofs.YtmabanabdoalaaaDoor
