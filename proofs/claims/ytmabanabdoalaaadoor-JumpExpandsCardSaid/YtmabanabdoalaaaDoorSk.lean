/- Package jump: what Expand answers. -/
import Derived.Test.YtmabanabdoalaaaDoorSi
import Derived.Test.YtmabanabdoalaaaDoorNum
namespace Go.Proofs.YtmabanabdoalaaaDoor
open Go.RowKit

/-- all tiles of jumps, or which error: 0 range, 2 none, 8 path -/
def expandR (g : Gd) : List Int → Option (List Int) × Nat
  | [] => (none, 2)
  | a :: xs => if (a :: xs).all (fun x => g.has x) = false then (none, 0) else if (a :: xs).any (fun x => !g.fre x) = true then (none, 8) else
    match expFrom g a xs with
    | some l => (some (a :: l), 0)
    | none => (none, 8)
def ExpP (W : World) (L : List (Nat × Obj)) (er : Nat → Addr) (r : Option (List Int) × Nat) (e : Ending) (w' : World) : Prop :=
  match r with
  | (some l, _) => ∃ u, e = .returned (.tuple #[u, .nilIface]) ∧ Ints W w' L u l
  | (none, c) => e = .returned (.tuple #[.slice none 0 0, errV (er c)]) ∧ SH W w' L
theorem along_none {W w : World} {L : List (Nat × Obj)} {p : Nat} {g : Gd} (ok : GdOk g) (hS : SH W w L) (hG : GdIn L p g) {a b : Int} (h : g.along a b = none) :
    Calls Tryd.prog 40 #[.pointer (some ⟨p, 0, none⟩), .int .i64 a, .int .i64 b] w fun e w' => e = .returned (.tuple #[.slice none 0 0, .bool false]) ∧ SH W w' L := by
  have := along_any ok hS hG a b
  rw [h] at this
  exact this

section
variable {W w : World} {L : List (Nat × Obj)} {p : Nat} {g : Gd}
set_option maxHeartbeats 6400000 in
set_option maxRecDepth 100000 in
theorem expand_cons (ok : GdOk g) (hS : SH W w L) (hG : GdIn L p g) {er : Nat → Addr} (hE : Errs L er) {v : Value} {a : Int} {xs : List Int} (hx : Sl encI 1 L v (a :: xs)) (hn : (a :: xs).length ≤ 1000) :
    Calls Tryd.prog 14 #[.pointer (some ⟨p, 0, none⟩), v] w (ExpP W L er (expandR g (a :: xs))) := by
  obtain ⟨R, hR⟩ : ∃ R, expandR g (a :: xs) = R := ⟨_, rfl⟩
  rw [hR]
  have HR := Lib.hid hR
  have HEr := Lib.hid hE
  have HX := Lib.hid hx
  obtain ⟨ao, c, rfl, hc, _⟩ := hx
  obtain ⟨b, off, rfl, _, _, cc, E, fr, hm, hcell⟩ := sl_tail HX.out
  have HC := Lib.hid (And.intro hm hcell)
  have HG := Lib.hid hG
  obtain ⟨i0, hi1, hz0, hz1, hz2⟩ := info_parts infoInt
  have HI := Lib.hid (And.intro hi1 (And.intro hz0 (And.intro hz1 hz2)))
  have hmf : ∀ (fn : Fn) (first cap : Array Value) (w : World), (Instr.makeFunc fn first cap).run Tryd.prog w = .ok (.func fn first cap) w := fun _ _ _ _ => rfl
  have HB := Lib.hid (hS.alloc (gvO p))
  have HG2 := Lib.hid (hG.mono (M := (w.heap.size, gvO p) :: L) (fun x h => .tail _ h))
  have HX2 := Lib.hid (HX.out.mono (M := (w.heap.size, gvO p) :: L) (fun x h => .tail _ h))
  obtain ⟨n, hnl⟩ : ∃ n, xs.length = n := ⟨_, rfl⟩
  simp only [List.length_cons, hnl] at hn hc ⊢
  have Hn := Lib.hid hnl
  have hcap1 : n + 1 ≤ c := hc
  have kz : ((n : Int) + 1 == 0) = false := by simp; omega
  have HS0 := Lib.hid hS
  clear hm hcell hR hE hG hi1 hz0 hz1 hz2 hS hnl hc
  go_enter Tryd.func14, Tryd.ntmps14
  go_wp2_with fail
  go_loop [19] (fun u => ∃ k : Nat, u = .int .i64 k ∧ k ≤ n + 1 ∧ Hid (((a :: xs).take k).all (fun x => g.has x) = true)) (fun u => n + 1 - (intOf u).toNat)
  case atStart => exact ⟨0, rfl, Nat.zero_le _, (show ((a :: xs).take 0).all _ = true by simp)⟩
  case round =>
    obtain ⟨k, rfl, hk, hall⟩ := hrel
    by_cases hlt : k < n + 1
    · obtain ⟨x, hxk⟩ : ∃ x, (a :: xs)[k]? = some x := ⟨(a :: xs)[k]'(by have := Hn.out; simp; omega), by simp⟩
      have hc0 : (w.alloc (gvO p)).cell? ⟨b, off + k, none⟩ = some (.int .i64 x) := HB.out.cell (.tail _ HC.out.1) (HC.out.2 k x hxk)
      have Hxk := Lib.hid hxk
      have g0 : (w.alloc (gvO p)).cell? ⟨1, 0, none⟩ = some (errV (er 0)) := (HEr.out.mono (M := (w.heap.size, gvO p) :: L) (fun x h => .tail _ h)).v0.cell HB.out
      unfold gvO at hc0 g0
      clear hxk
      have bad (h : g.has x = false) : R = (none, 0) := by
        rw [← HR.out]
        show (if (a :: xs).all (fun x => g.has x) = false then _ else _) = _
        rw [if_pos]
        exact List.all_eq_false.2 ⟨x, List.mem_of_getElem? Hxk.out, by simp [h]⟩
      by_cases x0 : x < 0
      · have HZ := Lib.hid (bad (by simp [Gd.has]; omega))
        clear bad
        go_wp2_with fail
        go_quiet (fail)
        have HS9 := Lib.hid (HB.out.tail.drewN (n := nq))
        go_wp2_with fail
        go_ret2
        rw [HZ.out]
        exact ⟨rfl, HS9.out⟩
      have k1 : decide (x < 0) = false := decide_eq_false (by omega)
      by_cases x1 : (g.fr.length : Int) ≤ x
      · have HZ := Lib.hid (bad (by simp [Gd.has]; omega))
        clear bad
        go_wp2_with fail
        refine (len_any HB.out HG2.out).mono ?_
        rintro e w1 ⟨rfl, rfl⟩
        unfold gvO
        go_wp2_with fail
        go_quiet (fail)
        have HS9 := Lib.hid (HB.out.tail.drewN (n := nq))
        go_wp2_with fail
        go_ret2
        rw [HZ.out]
        exact ⟨rfl, HS9.out⟩
      have b1 : x < (g.fr.length : Int) := by omega
      have hall2 : Hid (((a :: xs).take (k + 1)).all (fun x => g.has x) = true) := by
        show ((a :: xs).take (k + 1)).all (fun x => g.has x) = true
        rw [List.take_add_one, Hxk.out, List.all_append, hall.out]
        have : g.has x = true := by simp [Gd.has]; omega
        simp [this]
      clear bad g0 x1
      go_wp2_with fail
      refine (len_any HB.out HG2.out).mono ?_
      rintro e w1 ⟨rfl, rfl⟩
      unfold gvO
      go_wp2_with fail
      go_round
      case rel => exact ⟨k + 1, by go_num, by omega, hall2⟩
      case measure => simp [intOf]; omega
    · have hall2 : Hid ((a :: xs).all (fun x => g.has x) = true) := by
        have h1 := hall.out
        rw [List.take_of_length_le (by have := Hn.out; simp; omega)] at h1
        exact h1
      clear hk hall
      go_wp2_with fail
      have hcon := contains_any HB.out HG2.out (.head _) HX2.out (by have := Hn.out; simp; omega)
      rw [show (a :: xs).length = n + 1 by simp [Hn.out]] at hcon
      unfold expV gvO at hcon
      refine hcon.mono ?_
      rintro e w1 ⟨rfl, rfl⟩
      have hR1 : R = if (a :: xs).any (fun x => !g.fre x) = true then (none, 8) else match expFrom g a xs with
          | some l => (some (a :: l), 0)
          | none => (none, 8) := by
        rw [← HR.out]
        show (if (a :: xs).all (fun x => g.has x) = false then _ else _) = _
        rw [if_neg (by rw [hall2.out]; simp)]
      have g8 : (w.alloc (gvO p)).cell? ⟨2, 0, none⟩ = some (errV (er 8)) := (HEr.out.mono (M := (w.heap.size, gvO p) :: L) (fun x h => .tail _ h)).v8.cell HB.out
      unfold gvO at g8
      cases hany : (a :: xs).any (fun x => !g.fre x) with
      | true =>
        have HZ : Hid (R = (none, 8)) := by rw [hR1, hany]; rfl
        clear hR1 hany hcon hlt
        go_wp2_with fail
        go_quiet (fail)
        have HS9 := Lib.hid (HB.out.tail.drewN (n := nq))
        go_wp2_with fail
        go_ret2
        rw [HZ.out]
        exact ⟨rfl, HS9.out⟩
      | false =>
      have hR2 : R = match expFrom g a xs with
          | some l => (some (a :: l), 0)
          | none => (none, 8) := by rw [hR1, hany]; rfl
      obtain ⟨X, hX⟩ : ∃ X, expFrom g a xs = X := ⟨_, rfl⟩
      rw [hX] at hR2
      have HR2 := Lib.hid hR2
      have HXe := Lib.hid hX
      clear hR1 hR2 hany g8 hX
      have hc0 : (w.alloc (gvO p)).cell? ⟨b, off, none⟩ = some (.int .i64 a) := HB.out.cell (.tail _ HC.out.1) (by have := HC.out.2 0 a rfl; simpa using this)
      unfold gvO at hc0
      clear hcon hlt
      have hin : Hid ((expFrom g a (xs.drop 0)).map ([a] ++ ·) = X.map ([a] ++ ·)) := by
        show (expFrom g a xs).map ([a] ++ ·) = X.map ([a] ++ ·)
        rw [HXe.out]
      have HQ := Lib.hid (HB.out.alloc (.cells #[.int .i64 a] 3))
      have hcase : (c = 1 ∧ n = 0) ∨ ¬ c = 1 := by omega
      rcases hcase with ⟨hc1, hn0⟩ | hc1
      · subst hc1
        subst hn0
        have HZ : Hid (R = (some [a], 0)) := by
          show R = (some [a], 0)
          rw [HR2.out, ← HXe.out, List.eq_nil_of_length_eq_zero Hn.out]; rfl
        clear hin
        go_wp2_with fail
        refine wp_loop_rounds 1 ?_
        rw [rounds_succ]
        go_wp2_with fail
        go_ret2
        rw [HZ.out]
        refine ⟨_, rfl, w.heap.size + 1, 1, [], ?_, ?_, ?_⟩
        · rfl
        · exact ⟨rfl, rfl, by simp, by unfold maxLen; simp⟩
        · have h1 : SH W ((w.alloc (gvO p)).alloc (.cells #[.int .i64 a] 3)) ((w.heap.size + 1, Obj.cells #[.int .i64 a] 3 (0, 0)) :: (w.heap.size, gvO p) :: L) := by simpa using HQ.out
          have h2 := h1.sub (M := (w.heap.size + 1, Obj.cells #[.int .i64 a] 3 (0, 0)) :: L) ((List.sublist_cons_self _ _).cons_cons _)
          simpa [rowL, flatI, encI, gvO] using h2
      · have hgO : Hid (SH W ((w.alloc (gvO p)).alloc (.cells #[.int .i64 a] 3)) (rowL 3 (flatI [a]) (some (w.heap.size + 1, 1, [])) ++ ((w.heap.size, gvO p) :: L))) := by
          show SH W ((w.alloc (gvO p)).alloc (.cells #[.int .i64 a] 3)) (rowL 3 (flatI [a]) (some (w.heap.size + 1, 1, [])) ++ ((w.heap.size, gvO p) :: L))
          have h1 := HQ.out
          simpa [rowL, flatI, encI, gvO] using h1
        clear HQ HB
        go_wp2_with fail
        unfold gvO at hgO
        go_loopw [8, 44] (fun u i wr => ∃ (k r cap : Nat) (sp : List Value) (ys : List Int), u = .slice (some ⟨r, 0, none⟩) ys.length cap ∧ i = .int .i64 k ∧ k ≤ n ∧ Hid (rowOk 1 ys.length (flatI ys) (some (r, cap, sp)) ∧ SH W wr (rowL 3 (flatI ys) (some (r, cap, sp)) ++ ((w.heap.size, gvO p) :: L)) ∧ ys.length ≤ 34 * k + 1 ∧ (expFrom g ((a :: xs).getD k 0) (xs.drop k)).map (ys ++ ·) = X.map ([a] ++ ·))) (fun _ i _ => n - (intOf i).toNat)
        case atStart => exact ⟨0, w.heap.size + 1, 1, [], [a], rfl, rfl, Nat.zero_le _, ⟨rfl, rfl, by simp, by unfold maxLen; simp⟩, hgO.out, by simp, hin.out⟩
        case round =>
          obtain ⟨k, r, cap, sp, ys, rfl, rfl, hk, H⟩ := hrel
          clear hgO hin
          by_cases hlt : k < n
          · obtain ⟨x, hxk⟩ : ∃ x, (a :: xs)[k]? = some x := ⟨(a :: xs)[k]'(by have := Hn.out; simp; omega), by simp⟩
            obtain ⟨y, hyk⟩ : ∃ y, xs[k]? = some y := ⟨xs[k]'(by have := Hn.out; omega), by simp⟩
            have hm2 : ∀ z ∈ L, z ∈ rowL 3 (flatI ys) (some (r, cap, sp)) ++ ((w.heap.size, gvO p) :: L) := fun z h => List.mem_append_right _ (.tail _ h)
            have hE := H.out.2.2.2
            rw [show (a :: xs).getD k 0 = x by simp [List.getD, hxk], List.drop_eq_getElem_cons (show k < xs.length by have := Hn.out; omega), show xs[k]'(by have := Hn.out; omega) = y from (List.getElem?_eq_some_iff.1 hyk).2] at hE
            unfold expFrom at hE
            cases hm : g.along x y with
            | none =>
              have HZ : Hid (R = (none, 8)) := by
                show R = (none, 8)
                rw [hm] at hE
                have h1 : X = none := by
                  cases h2 : X with
                  | none => rfl
                  | some l => rw [h2] at hE; cases hE
                rw [HR2.out, h1]
              have Hm := Lib.hid hm
              have hc0 : wr.cell? ⟨b, off + k, none⟩ = some (.int .i64 x) := H.out.2.1.cell (hm2 _ HC.out.1) (HC.out.2 k x hxk)
              have hc2 : wr.cell? ⟨b, off + 1 + k, none⟩ = some (.int .i64 y) := H.out.2.1.cell (hm2 _ HC.out.1) (by
                have := HC.out.2 (k + 1) y (by simpa using hyk)
                rw [show off + 1 + k = off + (k + 1) by omega]; exact this)
              have hcb : wr.cell? ⟨w.heap.size, 0, none⟩ = some (.pointer (some ⟨p, 0, none⟩)) := H.out.2.1.cell (List.mem_append_right _ (.head _)) rfl
              have HG3 := Lib.hid (HG.out.mono hm2)
              have HE3 := Lib.hid (HEr.out.mono hm2)
              have HD := Lib.hid (H.out.2.1.drew)
              clear hxk hyk hE hm hm2
              go_wp2_with fail
              go_region_with (go_at_call 40; refine (along_none ok HD.out HG3.out Hm.out).mono ?_; rintro e w5 ⟨rfl, hS5⟩; have HI5 := Lib.hid hS5; clear hS5)
              all_goals
                have g8 := HE3.out.v8.cell HI5.out
                clear hc0 hc2 hcb HD
                go_wp2_with fail
                go_quiet (fail)
                have HS9 := Lib.hid (HI5.out.drewN (n := nq))
                go_wp2_with fail
                go_ret2
                rw [HZ.out]
                exact ⟨rfl, HS9.out.rest.tail⟩
            | some m =>
            rw [hm] at hE
            simp only [Option.bind_some] at hE
            have hml := along_len _ _ hm
            have HE := Lib.hid (And.intro hE hm)
            have hc0 : wr.cell? ⟨b, off + k, none⟩ = some (.int .i64 x) := H.out.2.1.cell (hm2 _ HC.out.1) (HC.out.2 k x hxk)
            have hc2 : wr.cell? ⟨b, off + 1 + k, none⟩ = some (.int .i64 y) := H.out.2.1.cell (hm2 _ HC.out.1) (by
              have := HC.out.2 (k + 1) y (by simpa using hyk)
              rw [show off + 1 + k = off + (k + 1) by omega]; exact this)
            have hcb : wr.cell? ⟨w.heap.size, 0, none⟩ = some (.pointer (some ⟨p, 0, none⟩)) := H.out.2.1.cell (List.mem_append_right _ (.head _)) rfl
            have HG3 := Lib.hid (HG.out.mono hm2)
            have HD := Lib.hid (H.out.2.1.drew)
            have hyl : ys.length ≤ 40000 := by have := H.out.2.2.1; omega
            have Hxy := Lib.hid (And.intro hxk hyk)
            clear hxk hyk hE hm hm2
            go_wp2_with fail
            go_region_with (go_at_call 40; refine (along_some ok HD.out HG3.out HE.out.2).mono ?_; rintro e w5 ⟨v5, rfl, r2, cap2, sp2, rfl, hok5, hS5⟩; have HI5 := Lib.hid (And.intro hok5 hS5); clear hok5 hS5)
            all_goals
              have hpre : SH W w5 (rowL 3 (flatI ys) (some (r, cap, sp)) ++ (rowL 3 (flatI m) (some (r2, cap2, sp2)) ++ ((w.heap.size, gvO p) :: L))) := HI5.out.2.perm (perm_rot' _ _ _)
              have HPre := Lib.hid hpre
              have hm0 : 0 < m.length := hml.1
              have hm1 := hml.2
              clear hpre hc0 hc2 hcb HD
              go_wp2_with (at_builtin; refine wpList_append_sh (st := some (r, cap, sp)) (L := rowL 3 (flatI m) (some (r2, cap2, sp2)) ++ ((w.heap.size, gvO p) :: L)) rfl (.tmp 62) (.tmp 63) 24 rfl i0 _ 8 Tryd.underlying24 HI.out.1 HI.out.2.1 HI.out.2.2.1 HI.out.2.2.2 rfl (by decide) HPre.out H.out.1 rfl _ m.length cap2 (flatI m) rfl (by rw [flatI_len, Nat.mul_one]) (row_news HI5.out.2) (flatI_one m) hm0 (by unfold maxLen; omega) (by omega) ?_; intro r6 cap6 sp6 w6 ok6 hS6; have HGr := Lib.hid (And.intro ok6 hS6); clear ok6 hS6 HPre)
              have HF6 : Hid (rowOk 1 (ys ++ m).length (flatI (ys ++ m)) (some (r6, cap6, sp6)) ∧ SH W w6 (rowL 3 (flatI (ys ++ m)) (some (r6, cap6, sp6)) ++ ((w.heap.size, gvO p) :: L)) ∧ (ys ++ m).length ≤ 34 * (k + 1) + 1 ∧ (expFrom g ((a :: xs).getD (k + 1) 0) (xs.drop (k + 1))).map ((ys ++ m) ++ ·) = X.map ([a] ++ ·)) := by
                have h1 := HGr.out
                rw [← flatI_append] at h1
                refine ⟨by rw [List.length_append]; exact h1.1, h1.2.sub (List.Sublist.append_left (List.sublist_append_right _ _) _), by have := H.out.2.2.1; simp; omega, ?_⟩
                rw [show (a :: xs).getD (k + 1) 0 = y by simp [List.getD, Hxy.out.2]]
                have h2 := HE.out.1
                rw [Option.map_map] at h2
                rw [← h2]
                congr 1
                funext z
                simp
              clear HGr H HE
              go_wp2_with fail
              go_roundw
              case rel => exact ⟨k + 1, r6, cap6, sp6, ys ++ m, by simp, by go_num, by omega, HF6⟩
              case measure => simp [intOf]; omega
          · have hk2 : k = n := by omega
            have HZ : Hid (R = (some ys, 0)) := by
              show R = (some ys, 0)
              have h1 := H.out.2.2.2
              rw [hk2, ← Hn.out, List.drop_length] at h1
              rw [HR2.out]
              cases h2 : X with
              | none => rw [h2] at h1; simp [expFrom] at h1
              | some l =>
                rw [h2] at h1
                simp [expFrom] at h1
                simp [h1]
            clear hk2
            go_wp2_with fail
            go_ret2
            rw [HZ.out]
            refine ⟨_, rfl, ?_⟩
            exact ⟨r, cap, sp, rfl, H.out.1, H.out.2.1.sub (List.Sublist.append_left (List.sublist_cons_self _ _) _)⟩
end
end Go.Proofs.YtmabanabdoalaaaDoor
