/- Package jump: what Expand answers where the points are jumps. -/
import Derived.Test.YtmabanabdoalaaaDoorSg
import Derived.Test.YtmabanabdoalaaaDoorSh2
namespace Go.Proofs.YtmabanabdoalaaaDoor
open Go.RowKit

/-- all tiles of jumps from a point on -/
def expFrom (g : Gd) : Int → List Int → Option (List Int)
  | _, [] => some []
  | a, b :: l => (g.along a b).bind fun m => (expFrom g b l).map (m ++ ·)
theorem sl_tail {L : List (Nat × Obj)} {x : Int} {xs : List Int} {a : Option Addr} {c n : Nat} (h : Sl encI 1 L (.slice a n c) (x :: xs)) :
    ∃ b off, a = some ⟨b, off, none⟩ ∧ n = xs.length + 1 ∧ n ≤ c ∧ ∃ cc E fr, (b, Obj.cells cc E fr) ∈ L ∧ ∀ (i : Nat) (y : Int), (x :: xs)[i]? = some y → cc[off + i]? = some (.int .i64 y) := by
  obtain ⟨a', c', h1, h2, h3⟩ := h
  simp only [Value.slice.injEq] at h1
  obtain ⟨rfl, rfl, rfl⟩ := h1
  rcases h3 with h3 | ⟨b, off, cc, E, fr, rfl, hm, hc⟩
  · cases h3
  · exact ⟨b, off, rfl, rfl, h2, cc, E, fr, hm, fun i y hy => by simpa using hc i y hy 0 _ rfl⟩

theorem along_some {W w : World} {L : List (Nat × Obj)} {p : Nat} {g : Gd} (ok : GdOk g) (hS : SH W w L) (hG : GdIn L p g) {a b : Int} {m : List Int} (h : g.along a b = some m) :
    Calls Tryd.prog 40 #[.pointer (some ⟨p, 0, none⟩), .int .i64 a, .int .i64 b] w fun e w' => ∃ v, e = .returned (.tuple #[v, .bool true]) ∧ Ints W w' L v m := by
  have := along_any ok hS hG a b
  rw [h] at this
  exact this
theorem perm_rot' {α : Type} (A B C : List α) : (A ++ (B ++ C)).Perm (B ++ (A ++ C)) := by
  rw [← List.append_assoc, ← List.append_assoc]
  exact List.perm_append_comm.append_right C
theorem row_news {W w : World} {L : List (Nat × Obj)} {r cap : Nat} {zs : List Int} {sp : List Value} (h : SH W w (rowL 3 (flatI zs) (some (r, cap, sp)) ++ L)) : ∀ j u, (flatI zs)[j]? = some u → w.cell? ((⟨r, 0, none⟩ : Addr).add j) = some u := by
  intro j u hu
  rw [add_plain', Nat.zero_add]
  refine h.cell (.head _) ?_
  have := (List.getElem?_eq_some_iff.1 hu).1
  simp only [List.getElem?_toArray]
  rw [List.getElem?_append_left this]; exact hu

section
variable {W w : World} {L : List (Nat × Obj)} {p : Nat} {g : Gd}
set_option maxHeartbeats 6400000 in
set_option maxRecDepth 100000 in
theorem expand_ok (ok : GdOk g) (hS : SH W w L) (hG : GdIn L p g) {v : Value} {a : Int} {xs l : List Int} (hx : Sl encI 1 L v (a :: xs)) (hn : (a :: xs).length ≤ 1000) (hf : ∀ x ∈ a :: xs, g.fre x = true) (hl : expFrom g a xs = some l) :
    Calls Tryd.prog 14 #[.pointer (some ⟨p, 0, none⟩), v] w fun e w' => ∃ u, e = .returned (.tuple #[u, .nilIface]) ∧ Ints W w' L u (a :: l) := by
  have HX := Lib.hid hx
  obtain ⟨ao, c, rfl, hc, _⟩ := hx
  obtain ⟨b, off, rfl, _, _, cc, E, fr, hm, hcell⟩ := sl_tail HX.out
  have HC := Lib.hid (And.intro hm hcell)
  have HF := Lib.hid hf
  have HLl := Lib.hid hl
  have HG := Lib.hid hG
  obtain ⟨i0, hi1, hz0, hz1, hz2⟩ := info_parts infoInt
  have HI := Lib.hid (And.intro hi1 (And.intro hz0 (And.intro hz1 hz2)))
  have hmf : ∀ (fn : Fn) (first cap : Array Value) (w : World), (Instr.makeFunc fn first cap).run Tryd.prog w = .ok (.func fn first cap) w := fun _ _ _ _ => rfl
  have HB := Lib.hid (hS.alloc (gvO p))
  have HG2 := Lib.hid (hG.mono (M := (w.heap.size, gvO p) :: L) (fun x h => .tail _ h))
  have HX2 := Lib.hid (HX.out.mono (M := (w.heap.size, gvO p) :: L) (fun x h => .tail _ h))
  obtain ⟨n, hnl⟩ : ∃ n, xs.length = n := ⟨_, rfl⟩
  simp only [List.length_cons, hnl] at hn hc ⊢
  have Hn := Lib.hid hnl
  have hcap1 : n + 1 ≤ c := hc
  have kz : ((n : Int) + 1 == 0) = false := by simp; omega
  clear hm hcell hf hl hG hi1 hz0 hz1 hz2 hS hnl hc
  go_enter Tryd.func14, Tryd.ntmps14
  go_wp2_with fail
  go_loop [19] (fun u => ∃ k : Nat, u = .int .i64 k ∧ k ≤ n + 1) (fun u => n + 1 - (intOf u).toNat)
  case atStart => exact ⟨0, rfl, Nat.zero_le _⟩
  case round =>
    obtain ⟨k, rfl, hk⟩ := hrel
    by_cases hlt : k < n + 1
    · obtain ⟨x, hxk⟩ : ∃ x, (a :: xs)[k]? = some x := ⟨(a :: xs)[k]'(by have := Hn.out; simp; omega), by simp⟩
      have hb := fre_bd (HF.out x (List.mem_of_getElem? hxk))
      have hc0 : (w.alloc (gvO p)).cell? ⟨b, off + k, none⟩ = some (.int .i64 x) := HB.out.cell (.tail _ HC.out.1) (HC.out.2 k x hxk)
      have k1 : decide (x < 0) = false := decide_eq_false (by omega)
      have b1 := hb.2
      unfold gvO at hc0
      clear hxk hb
      go_wp2_with fail
      refine (len_any HB.out HG2.out).mono ?_
      rintro e w1 ⟨rfl, rfl⟩
      unfold gvO
      go_wp2_with fail
      go_round
      case rel => exact ⟨k + 1, by go_num, by omega⟩
      case measure => simp [intOf]; omega
    · clear hk
      go_wp2_with fail
      have hcon := contains_any HB.out HG2.out (.head _) HX2.out (by have := Hn.out; simp; omega)
      rw [show (a :: xs).length = n + 1 by simp [Hn.out]] at hcon
      unfold expV gvO at hcon
      refine hcon.mono ?_
      rintro e w1 ⟨rfl, rfl⟩
      rw [show (a :: xs).any (fun x => !g.fre x) = false from List.any_eq_false.2 (fun x hx => by simp [HF.out x hx])]
      have hc0 : (w.alloc (gvO p)).cell? ⟨b, off, none⟩ = some (.int .i64 a) := HB.out.cell (.tail _ HC.out.1) (by have := HC.out.2 0 a rfl; simpa using this)
      unfold gvO at hc0
      clear hcon hlt
      have hin : Hid ((expFrom g a (xs.drop 0)).map ([a] ++ ·) = some (a :: l)) := by
        show (expFrom g a xs).map ([a] ++ ·) = some (a :: l)
        rw [HLl.out]; rfl
      have HQ := Lib.hid (HB.out.alloc (.cells #[.int .i64 a] 3))
      have hcase : (c = 1 ∧ n = 0) ∨ ¬ c = 1 := by omega
      rcases hcase with ⟨hc1, hn0⟩ | hc1
      · subst hc1
        subst hn0
        have HZ : Hid (l = []) := by
          show l = []
          have h1 := hin.out
          rw [List.eq_nil_of_length_eq_zero Hn.out] at h1
          simp [expFrom] at h1
          exact h1
        clear hin
        go_wp2_with fail
        refine wp_loop_rounds 1 ?_
        rw [rounds_succ]
        go_wp2_with fail
        go_ret2
        refine ⟨_, rfl, w.heap.size + 1, 1, [], ?_, ?_, ?_⟩
        · rw [HZ.out]; rfl
        · rw [HZ.out]; exact ⟨rfl, rfl, by simp, by unfold maxLen; simp⟩
        · rw [HZ.out]
          have h1 : SH W ((w.alloc (gvO p)).alloc (.cells #[.int .i64 a] 3)) ((w.heap.size + 1, Obj.cells #[.int .i64 a] 3 (0, 0)) :: (w.heap.size, gvO p) :: L) := by simpa using HQ.out
          have h2 := h1.sub (M := (w.heap.size + 1, Obj.cells #[.int .i64 a] 3 (0, 0)) :: L) ((List.sublist_cons_self _ _).cons_cons _)
          simpa [rowL, flatI, encI, gvO] using h2
      · have hgO : Hid (SH W ((w.alloc (gvO p)).alloc (.cells #[.int .i64 a] 3)) (rowL 3 (flatI [a]) (some (w.heap.size + 1, 1, [])) ++ ((w.heap.size, gvO p) :: L))) := by
          show SH W ((w.alloc (gvO p)).alloc (.cells #[.int .i64 a] 3)) (rowL 3 (flatI [a]) (some (w.heap.size + 1, 1, [])) ++ ((w.heap.size, gvO p) :: L))
          have h1 := HQ.out
          simpa [rowL, flatI, encI, gvO] using h1
        clear HQ HB
        go_wp2_with fail
        unfold gvO at hgO
        go_loopw [8, 44] (fun u i wr => ∃ (k r cap : Nat) (sp : List Value) (ys : List Int), u = .slice (some ⟨r, 0, none⟩) ys.length cap ∧ i = .int .i64 k ∧ k ≤ n ∧ Hid (rowOk 1 ys.length (flatI ys) (some (r, cap, sp)) ∧ SH W wr (rowL 3 (flatI ys) (some (r, cap, sp)) ++ ((w.heap.size, gvO p) :: L)) ∧ ys.length ≤ 34 * k + 1 ∧ (expFrom g ((a :: xs).getD k 0) (xs.drop k)).map (ys ++ ·) = some (a :: l))) (fun _ i _ => n - (intOf i).toNat)
        case atStart => exact ⟨0, w.heap.size + 1, 1, [], [a], rfl, rfl, Nat.zero_le _, ⟨rfl, rfl, by simp, by unfold maxLen; simp⟩, hgO.out, by simp, hin.out⟩
        case round =>
          obtain ⟨k, r, cap, sp, ys, rfl, rfl, hk, H⟩ := hrel
          clear hgO hin
          by_cases hlt : k < n
          · obtain ⟨x, hxk⟩ : ∃ x, (a :: xs)[k]? = some x := ⟨(a :: xs)[k]'(by have := Hn.out; simp; omega), by simp⟩
            obtain ⟨y, hyk⟩ : ∃ y, xs[k]? = some y := ⟨xs[k]'(by have := Hn.out; omega), by simp⟩
            have hm2 : ∀ z ∈ L, z ∈ rowL 3 (flatI ys) (some (r, cap, sp)) ++ ((w.heap.size, gvO p) :: L) := fun z h => List.mem_append_right _ (.tail _ h)
            have hE := H.out.2.2.2
            rw [show (a :: xs).getD k 0 = x by simp [List.getD, hxk], List.drop_eq_getElem_cons (show k < xs.length by have := Hn.out; omega), show xs[k]'(by have := Hn.out; omega) = y from (List.getElem?_eq_some_iff.1 hyk).2] at hE
            unfold expFrom at hE
            obtain ⟨m, hm⟩ : ∃ m, g.along x y = some m := by
              cases h : g.along x y with
              | some m => exact ⟨m, rfl⟩
              | none => rw [h] at hE; cases hE
            rw [hm] at hE
            simp only [Option.bind_some] at hE
            have hml := along_len _ _ hm
            have HE := Lib.hid (And.intro hE hm)
            have hc0 : wr.cell? ⟨b, off + k, none⟩ = some (.int .i64 x) := H.out.2.1.cell (hm2 _ HC.out.1) (HC.out.2 k x hxk)
            have hc2 : wr.cell? ⟨b, off + 1 + k, none⟩ = some (.int .i64 y) := H.out.2.1.cell (hm2 _ HC.out.1) (by
              have := HC.out.2 (k + 1) y (by simpa using hyk)
              rw [show off + 1 + k = off + (k + 1) by omega]; exact this)
            have hcb : wr.cell? ⟨w.heap.size, 0, none⟩ = some (.pointer (some ⟨p, 0, none⟩)) := H.out.2.1.cell (List.mem_append_right _ (.head _)) rfl
            have HG3 := Lib.hid (HG.out.mono hm2)
            have HD := Lib.hid (H.out.2.1.drew)
            have hyl : ys.length ≤ 40000 := by have := H.out.2.2.1; omega
            have Hxy := Lib.hid (And.intro hxk hyk)
            clear hxk hyk hE hm hm2
            go_wp2_with fail
            go_region_with (go_at_call 40; refine (along_some ok HD.out HG3.out HE.out.2).mono ?_; rintro e w5 ⟨v5, rfl, r2, cap2, sp2, rfl, hok5, hS5⟩; have HI5 := Lib.hid (And.intro hok5 hS5); clear hok5 hS5)
            all_goals
              have hpre : SH W w5 (rowL 3 (flatI ys) (some (r, cap, sp)) ++ (rowL 3 (flatI m) (some (r2, cap2, sp2)) ++ ((w.heap.size, gvO p) :: L))) := HI5.out.2.perm (perm_rot' _ _ _)
              have HPre := Lib.hid hpre
              have hm0 : 0 < m.length := hml.1
              have hm1 := hml.2
              clear hpre hc0 hc2 hcb HD
              go_wp2_with (at_builtin; refine wpList_append_sh (st := some (r, cap, sp)) (L := rowL 3 (flatI m) (some (r2, cap2, sp2)) ++ ((w.heap.size, gvO p) :: L)) rfl (.tmp 62) (.tmp 63) 24 rfl i0 _ 8 Tryd.underlying24 HI.out.1 HI.out.2.1 HI.out.2.2.1 HI.out.2.2.2 rfl (by decide) HPre.out H.out.1 rfl _ m.length cap2 (flatI m) rfl (by rw [flatI_len, Nat.mul_one]) (row_news HI5.out.2) (flatI_one m) hm0 (by unfold maxLen; omega) (by omega) ?_; intro r6 cap6 sp6 w6 ok6 hS6; have HGr := Lib.hid (And.intro ok6 hS6); clear ok6 hS6 HPre)
              have HF6 : Hid (rowOk 1 (ys ++ m).length (flatI (ys ++ m)) (some (r6, cap6, sp6)) ∧ SH W w6 (rowL 3 (flatI (ys ++ m)) (some (r6, cap6, sp6)) ++ ((w.heap.size, gvO p) :: L)) ∧ (ys ++ m).length ≤ 34 * (k + 1) + 1 ∧ (expFrom g ((a :: xs).getD (k + 1) 0) (xs.drop (k + 1))).map ((ys ++ m) ++ ·) = some (a :: l)) := by
                have h1 := HGr.out
                rw [← flatI_append] at h1
                refine ⟨by rw [List.length_append]; exact h1.1, h1.2.sub (List.Sublist.append_left (List.sublist_append_right _ _) _), by have := H.out.2.2.1; simp; omega, ?_⟩
                rw [show (a :: xs).getD (k + 1) 0 = y by simp [List.getD, Hxy.out.2]]
                have h2 := HE.out.1
                rw [Option.map_map] at h2
                rw [← h2]
                congr 1
                funext z
                simp
              clear HGr H HE
              go_wp2_with fail
              go_roundw
              case rel => exact ⟨k + 1, r6, cap6, sp6, ys ++ m, by simp, by go_num, by omega, HF6⟩
              case measure => simp [intOf]; omega
          · have hk2 : k = n := by omega
            have HZ : Hid (ys = a :: l) := by
              have h1 := H.out.2.2.2
              rw [hk2, ← Hn.out, List.drop_length] at h1
              simp [expFrom] at h1
              exact h1
            clear hk2
            go_wp2_with fail
            go_ret2
            refine ⟨_, rfl, ?_⟩
            rw [← HZ.out]
            exact ⟨r, cap, sp, rfl, H.out.1, H.out.2.1.sub (List.Sublist.append_left (List.sublist_cons_self _ _) _)⟩
end
end Go.Proofs.YtmabanabdoalaaaDoor
