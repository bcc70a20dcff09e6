/- Package paddockref18: what Expand answers. -/
import Derived.Test.YtmabanabdoalaaaDoorSk
namespace Go.Proofs.YtmabanabdoalaaaDoor
open Go.RowKit

def upTo (b : Int) : List Int → Option (List Int)
  | [] => none
  | x :: l => if x = b then some [x] else (upTo b l).map (x :: ·)
theorem upTo_cons (b x : Int) (l : List Int) : upTo b (x :: l) = if x = b then some [x] else (upTo b l).map (x :: ·) := rfl
theorem upTo_ray {g : Gd} {d b : Int} : ∀ (n : Nat) (t : Int), upTo b (g.ray d n t) = g.rayTo d b n t := by
  intro n
  induction n with
  | zero => intro t; rfl
  | succ n ih =>
    intro t
    unfold Gd.ray Gd.rayTo
    by_cases h1 : g.go t d = -1
    · rw [if_pos h1, if_pos h1]; rfl
    · rw [if_neg h1, if_neg h1]
      unfold upTo
      rw [ih]
theorem rayTo_mono {g : Gd} (ok : GdOk g) (d b : Int) : ∀ (n m : Nat) (t : Int), (g.fre t = true → g.rank d t < n) → (g.fre t = true → g.rank d t < m) → 0 < n → 0 < m → g.rayTo d b n t = g.rayTo d b m t := by
  intro n
  induction n with
  | zero => intro m t _ _ h; omega
  | succ n ih =>
    intro m t hn hm _ hm0
    obtain ⟨m, rfl⟩ : ∃ k, m = k + 1 := ⟨m - 1, by omega⟩
    unfold Gd.rayTo
    by_cases h1 : g.go t d = -1
    · rw [if_pos h1, if_pos h1]
    · have hf := (go_from h1).1
      have hr := rank_lt ok h1
      have h2 := hn hf
      have h3 := hm hf
      rw [if_neg h1, if_neg h1]
      split
      · rfl
      · rw [ih m _ (fun _ => by omega) (fun _ => by omega) (by omega) (by omega)]
theorem upTo_34 {g : Gd} (ok : GdOk g) (d b t : Int) : upTo b (g.ray d 40 t) = g.rayTo d b 34 t := by
  rw [upTo_ray]
  exact rayTo_mono ok d b 40 34 t (fun h => by have := rank_le ok d h; omega) (fun h => by have := rank_le ok d h; omega) (by omega) (by omega)
theorem row_take_news {W w : World} {L : List (Nat × Obj)} {r cap : Nat} {zs : List Int} {sp : List Value} (k : Nat) (h : SH W w (rowL 3 (flatI zs) (some (r, cap, sp)) ++ L)) : ∀ j u, (flatI (zs.take k))[j]? = some u → w.cell? ((⟨r, 0, none⟩ : Addr).add j) = some u := by
  intro j u hu
  refine row_news h j u ?_
  have e : flatI zs = flatI (zs.take k) ++ flatI (zs.drop k) := by rw [← flatI_append, List.take_append_drop]
  rw [e, List.getElem?_append_left (List.getElem?_eq_some_iff.1 hu).1]
  exact hu
/-- a flag that simp does not split -/
structure Flag where
  b : Bool
/-- what the reference's Expand answers -/
def ExpQ (W : World) (L : List (Nat × Obj)) (r : Option (List Int) × Nat) (e : Ending) (w' : World) : Prop :=
  match r with
  | (some l, _) => ∃ u, e = .returned (.tuple #[u, .int .i64 0]) ∧ Ints W w' L u l
  | (none, c) => e = .returned (.tuple #[.slice none 0 0, .int .i64 ((c + 1 : Nat) : Int)]) ∧ SH W w' L

section
variable {W w : World} {L : List (Nat × Obj)} {p : Nat} {g : Gd}
set_option maxHeartbeats 6400000 in
set_option maxRecDepth 100000 in
theorem expand18_cons (ok : GdOk g) (hS : SH W w L) (hG : RgIn L p g) {v : Value} {a : Int} {xs : List Int} (hx : Sl encI 1 L v (a :: xs)) (hn : (a :: xs).length ≤ 1000) :
    Calls Tryd.prog 16 #[.pointer (some ⟨p, 0, none⟩), v] w (ExpQ W L (expandR g (a :: xs))) := by
  obtain ⟨R, hR⟩ : ∃ R, expandR g (a :: xs) = R := ⟨_, rfl⟩
  rw [hR]
  have HR := Lib.hid hR
  have HX := Lib.hid hx
  obtain ⟨ao, c, rfl, hc, _⟩ := hx
  obtain ⟨b, off, rfl, _, _, cc, E, fr, hm, hcell⟩ := sl_tail HX.out
  have HC := Lib.hid (And.intro hm hcell)
  have HG := Lib.hid hG
  have HS := Lib.hid hS
  obtain ⟨i0, hi1, hz0, hz1, hz2⟩ := info_parts infoInt
  have HI := Lib.hid (And.intro hi1 (And.intro hz0 (And.intro hz1 hz2)))
  obtain ⟨n, hnl⟩ : ∃ n, xs.length = n := ⟨_, rfl⟩
  simp only [List.length_cons, hnl] at hn hc ⊢
  have Hn := Lib.hid hnl
  have kz : ((n : Int) + 1 == 0) = false := by simp; omega
  clear hm hcell hR hG hi1 hz0 hz1 hz2 hS hnl
  go_enter Tryd.func16, Tryd.ntmps16
  go_wp2_with fail
  go_loop [22] (fun u => ∃ k : Nat, u = .int .i64 k ∧ k ≤ n + 1 ∧ Hid (((a :: xs).take k).all (fun x => g.has x) = true)) (fun u => n + 1 - (intOf u).toNat)
  case atStart => exact ⟨0, rfl, Nat.zero_le _, (show ((a :: xs).take 0).all _ = true by simp)⟩
  case round =>
    obtain ⟨k, rfl, hk, hall⟩ := hrel
    by_cases hlt : k < n + 1
    · obtain ⟨x, hxk⟩ : ∃ x, (a :: xs)[k]? = some x := ⟨(a :: xs)[k]'(by have := Hn.out; simp; omega), by simp⟩
      have hc0 : w.cell? ⟨b, off + k, none⟩ = some (.int .i64 x) := HS.out.cell HC.out.1 (HC.out.2 k x hxk)
      have Hxk := Lib.hid hxk
      clear hxk
      cases hx1 : g.has x with
      | false =>
        have HZ : Hid (R = (none, 0)) := by
          rw [← HR.out]
          show (if (a :: xs).all (fun x => g.has x) = false then _ else _) = _
          rw [if_pos]
          exact List.all_eq_false.2 ⟨x, List.mem_of_getElem? Hxk.out, by simp [hx1]⟩
        have H1 := Lib.hid hx1
        clear hx1
        go_wp2_with fail
        refine (rhas_any HS.out HG.out x).mono ?_
        rintro e w1 ⟨rfl, rfl⟩
        rw [H1.out]
        go_wp2_with fail
        go_ret2
        rw [HZ.out]
        exact ⟨rfl, HS.out⟩
      | true =>
        have hall2 : Hid (((a :: xs).take (k + 1)).all (fun x => g.has x) = true) := by
          show ((a :: xs).take (k + 1)).all (fun x => g.has x) = true
          rw [List.take_add_one, Hxk.out, List.all_append, hall.out]
          simp [hx1]
        have H1 := Lib.hid hx1
        clear hx1
        go_wp2_with fail
        refine (rhas_any HS.out HG.out x).mono ?_
        rintro e w1 ⟨rfl, rfl⟩
        rw [H1.out]
        go_wp2_with fail
        go_round
        case rel => exact ⟨k + 1, by go_num, by omega, hall2⟩
        case measure => simp [intOf]; omega
    · have hall2 : Hid ((a :: xs).all (fun x => g.has x) = true) := by
        have h1 := hall.out
        rw [List.take_of_length_le (by have := Hn.out; simp; omega)] at h1
        exact h1
      clear hk hall
      go_wp2_with fail
      clear hlt
      have hR1 : R = if (a :: xs).any (fun x => !g.fre x) = true then (none, 8) else match expFrom g a xs with
          | some l => (some (a :: l), 0)
          | none => (none, 8) := by
        rw [← HR.out]
        show (if (a :: xs).all (fun x => g.has x) = false then _ else _) = _
        rw [if_neg (by rw [hall2.out]; simp)]
        rfl
      have HR1 := Lib.hid hR1
      clear hR1
      go_loop [33] (fun u => ∃ k : Nat, u = .int .i64 k ∧ k ≤ n + 1 ∧ Hid (((a :: xs).take k).any (fun x => !g.fre x) = false)) (fun u => n + 1 - (intOf u).toNat)
      case atStart => exact ⟨0, rfl, Nat.zero_le _, (show ((a :: xs).take 0).any _ = false by simp)⟩
      case round =>
        obtain ⟨k, rfl, hk, hany⟩ := hrel
        by_cases hlt : k < n + 1
        · obtain ⟨x, hxk⟩ : ∃ x, (a :: xs)[k]? = some x := ⟨(a :: xs)[k]'(by have := Hn.out; simp; omega), by simp⟩
          have hc0 : w.cell? ⟨b, off + k, none⟩ = some (.int .i64 x) := HS.out.cell HC.out.1 (HC.out.2 k x hxk)
          have hhas : g.has x = true := List.all_eq_true.1 hall2.out x (List.mem_of_getElem? hxk)
          have h2 : 0 ≤ x ∧ x < g.fr.length := by simpa [Gd.has] using hhas
          obtain ⟨x, rfl⟩ := Int.eq_ofNat_of_zero_le h2.1
          obtain ⟨f, hf⟩ : ∃ b, g.fr[x]? = some b := ⟨g.fr[x]'(by omega), by simp⟩
          obtain ⟨r, hp, hr⟩ := HG.out
          have q2 : w.cell? ⟨p, 2, none⟩ = some (.slice (some ⟨r, 0, none⟩) g.fr.length g.fr.length) := HS.out.cell hp rfl
          have qx : w.cell? ⟨r, x, none⟩ = some (.bool f) := HS.out.cell hr (bools_get hf)
          have hfx : g.fre (x : Int) = f := fre_get h2.1 (by simpa using hf)
          have hxl : (x : Int) < (g.fr.length : Int) := h2.2
          have Hxk := Lib.hid (And.intro hxk hfx)
          clear hxk hhas h2 hf hp hr hfx
          cases f with
          | false =>
            have HZ : Hid (R = (none, 8)) := by
              have h0 : (a :: xs).any (fun x => !g.fre x) = true := List.any_eq_true.2 ⟨(x : Int), List.mem_of_getElem? Hxk.out.1, by simp [Hxk.out.2]⟩
              show R = (none, 8)
              rw [HR1.out, if_pos h0]
            go_wp2_with fail
            go_ret2
            rw [HZ.out]
            exact ⟨rfl, HS.out⟩
          | true =>
            have hany2 : Hid (((a :: xs).take (k + 1)).any (fun x => !g.fre x) = false) := by
              show ((a :: xs).take (k + 1)).any (fun x => !g.fre x) = false
              rw [List.take_add_one, Hxk.out.1, List.any_append, hany.out]
              simp [Hxk.out.2]
            go_wp2_with fail
            go_round
            case rel => exact ⟨k + 1, by go_num, by omega, hany2⟩
            case measure => simp [intOf]; omega
        · have HR2 : Hid (R = match expFrom g a xs with
              | some l => (some (a :: l), 0)
              | none => (none, 8)) := by
            have h1 := hany.out
            rw [List.take_of_length_le (by have := Hn.out; simp; omega)] at h1
            have h2 := HR1.out
            rw [h1] at h2
            exact h2
          obtain ⟨X, hX⟩ : ∃ X, expFrom g a xs = X := ⟨_, rfl⟩
          have hR3 := HR2.out
          rw [hX] at hR3
          have HR3 := Lib.hid hR3
          have HXe := Lib.hid hX
          clear HR2 hX hR3
          have hc0 : w.cell? ⟨b, off, none⟩ = some (.int .i64 a) := HS.out.cell HC.out.1 (by have := HC.out.2 0 a rfl; simpa using this)
          have hnn : (0 : Int) < (n : Int) + 1 := by omega
          clear hk hany
          go_wp2_with fail
          clear hlt hc0
          have hin : Hid ((expFrom g ((a :: xs).getD 0 0) (xs.drop 0)).map ([a] ++ ·) = X.map ([a] ++ ·)) := by
            show (expFrom g a xs).map ([a] ++ ·) = X.map ([a] ++ ·)
            rw [HXe.out]
          have hgO : Hid (SH W (w.alloc (.cells #[.int .i64 a] 3)) (rowL 3 (flatI [a]) (some (w.heap.size, 1, [])) ++ L)) := by
            show SH W (w.alloc (.cells #[.int .i64 a] 3)) (rowL 3 (flatI [a]) (some (w.heap.size, 1, [])) ++ L)
            have h1 := HS.out.alloc (.cells #[.int .i64 a] 3)
            simpa [rowL, flatI, encI] using h1
          go_loopw [10, 11] (fun u i wr => ∃ (k r cap : Nat) (sp : List Value) (ys : List Int), u = .slice (some ⟨r, 0, none⟩) ys.length cap ∧ i = .int .i64 ((k + 1 : Nat) : Int) ∧ k ≤ n ∧ Hid (rowOk 1 ys.length (flatI ys) (some (r, cap, sp)) ∧ SH W wr (rowL 3 (flatI ys) (some (r, cap, sp)) ++ L) ∧ ys.length ≤ 34 * k + 1 ∧ (expFrom g ((a :: xs).getD k 0) (xs.drop k)).map (ys ++ ·) = X.map ([a] ++ ·))) (fun _ i _ => n + 1 - (intOf i).toNat)
          case atStart => exact ⟨0, w.heap.size, 1, [], [a], rfl, rfl, Nat.zero_le _, ⟨rfl, rfl, by simp, by unfold maxLen; simp⟩, hgO.out, by simp, hin.out⟩
          case round =>
            obtain ⟨k, r, cap, sp, ys, rfl, rfl, hk, H⟩ := hrel
            clear hgO hin
            by_cases hlt : k < n
            · obtain ⟨x, hxk⟩ : ∃ x, (a :: xs)[k]? = some x := ⟨(a :: xs)[k]'(by have := Hn.out; simp; omega), by simp⟩
              obtain ⟨y, hyk⟩ : ∃ y, xs[k]? = some y := ⟨xs[k]'(by have := Hn.out; omega), by simp⟩
              have hE := H.out.2.2.2
              rw [show (a :: xs).getD k 0 = x by simp [List.getD, hxk], List.drop_eq_getElem_cons (show k < xs.length by have := Hn.out; omega), show xs[k]'(by have := Hn.out; omega) = y from (List.getElem?_eq_some_iff.1 hyk).2] at hE
              unfold expFrom at hE
              have HE := Lib.hid hE
              have HXY := Lib.hid (And.intro (HC.out.2 k x hxk) (show cc[off + (k + 1)]? = some (.int .i64 y) from HC.out.2 (k + 1) y (by simpa using hyk)))
              have Hyk := Lib.hid hyk
              have hyl : ys.length ≤ 40000 := by have := H.out.2.2.1; omega
              clear hxk hyk hE
              go_wp2_with fail
              obtain ⟨wo, rfl⟩ : ∃ wo, wo = wr := ⟨_, rfl⟩
              go_loopw [10, 12, 13] (fun u f i wr => ∃ (j : Nat) (fb : Flag) (r cap : Nat) (sp : List Value) (zs : List Int), u = .slice (some ⟨r, 0, none⟩) zs.length cap ∧ f = .bool fb.b ∧ i = .int .i64 j ∧ j ≤ 8 ∧ Hid (((fb.b = false ∧ zs = ys ∧ alongD g x y (dirs8'.drop j) = g.along x y) ∨ (fb.b = true ∧ ∃ m, g.along x y = some m ∧ zs = ys ++ m)) ∧ rowOk 1 zs.length (flatI zs) (some (r, cap, sp)) ∧ SH W wr (rowL 3 (flatI zs) (some (r, cap, sp)) ++ L))) (fun _ _ i _ => 8 - (intOf i).toNat)
              case atStart => exact ⟨0, ⟨false⟩, r, cap, sp, ys, rfl, rfl, rfl, Nat.zero_le _, .inl ⟨rfl, rfl, rfl⟩, H.out.1, H.out.2.1⟩
              case round =>
                obtain ⟨j, ⟨fb⟩, r1, cap1, sp1, zs, rfl, rfl, rfl, hj, K⟩ := hrel
                by_cases hgo : j < 8 ∧ fb = false
                · obtain ⟨hj8, rfl⟩ := hgo
                  have hzs : zs = ys ∧ alongD g x y (dirs8'.drop j) = g.along x y := by
                    rcases K.out.1 with h | h
                    · exact h.2
                    · cases h.1
                  have hdr : dirs8'.drop j = (j : Int) :: dirs8'.drop (j + 1) := by
                    match j, hj8 with
                    | 0, _ | 1, _ | 2, _ | 3, _ | 4, _ | 5, _ | 6, _ | 7, _ => rfl
                  have hA := hzs.2
                  rw [hdr] at hA
                  unfold alongD at hA
                  rw [← upTo_34 ok] at hA
                  obtain ⟨rfl, _⟩ := hzs
                  have hm2 : ∀ z ∈ L, z ∈ rowL 3 (flatI zs) (some (r1, cap1, sp1)) ++ L := fun z h => List.mem_append_right _ h
                  have hcx : wr.cell? ⟨b, off + k, none⟩ = some (.int .i64 x) := K.out.2.2.cell (hm2 _ HC.out.1) HXY.out.1
                  have HG3 := Lib.hid (HG.out.mono hm2)
                  have hjd : decide ((j : Int) < 8) = true := decide_eq_true (by omega)
                  obtain ⟨l, hl⟩ : ∃ l, g.ray j 40 x = l := ⟨_, rfl⟩
                  rw [hl] at hA
                  have hll : l.length ≤ 40 := by rw [← hl]; exact ray_len _ _
                  have Hl := Lib.hid hl
                  have HA := Lib.hid hA
                  clear hA hl hdr H
                  go_wp2_with fail
                  refine (ray_any ok K.out.2.2 HG3.out x j).mono ?_
                  rintro e w5 ⟨v5, rfl, hI5⟩
                  rw [Hl.out] at hI5
                  obtain ⟨r2, cap2, sp2, rfl, hok2, hS2⟩ := hI5
                  have HI2 := Lib.hid (And.intro hok2 hS2)
                  have hcap2 : l.length ≤ cap2 := hok2.2.2.1
                  have HK := Lib.hid K.out.2.1
                  clear hok2 hS2 hcx K
                  go_wp2_with fail
                  go_loop [10, 12, 74] (fun u f i => ∃ q : Nat, u = .slice (some ⟨r1, 0, none⟩) zs.length cap1 ∧ f = .bool false ∧ i = .int .i64 q ∧ q ≤ l.length ∧ Hid ((upTo y (l.drop q)).map (l.take q ++ ·) = upTo y l)) (fun _ _ i => l.length - (intOf i).toNat)
                  case atStart => exact ⟨0, rfl, rfl, rfl, Nat.zero_le _, (show (upTo y (l.drop 0)).map (l.take 0 ++ ·) = upTo y l by simp)⟩
                  case round =>
                    obtain ⟨q, rfl, rfl, rfl, hq, Q⟩ := hrel
                    by_cases hql : q < l.length
                    · obtain ⟨z, hz⟩ : ∃ z, l[q]? = some z := ⟨l[q], by simp [hql]⟩
                      have hm3 : ∀ z ∈ L, z ∈ rowL 3 (flatI l) (some (r2, cap2, sp2)) ++ (rowL 3 (flatI zs) (some (r1, cap1, sp1)) ++ L) := fun z h => List.mem_append_right _ (hm2 z h)
                      have c1 : w5.cell? ⟨r2, q, none⟩ = some (.int .i64 z) := HI2.out.2.cell (.head _) (flatI_get hz)
                      have c2 : w5.cell? ⟨b, off + (k + 1), none⟩ = some (.int .i64 y) := HI2.out.2.cell (hm3 _ HC.out.1) HXY.out.2
                      have hE2 := Q.out
                      rw [List.drop_eq_getElem_cons hql, show l[q] = z from (List.getElem?_eq_some_iff.1 hz).2] at hE2
                      rw [upTo_cons] at hE2
                      have Hz := Lib.hid hz
                      have HE2 := Lib.hid hE2
                      clear hz hE2 Q
                      by_cases hzy : z = y
                      · have k1 : (z == y) = true := by simp [hzy]
                        have hal : g.along x y = some (l.take (q + 1)) := by
                          have h1 := HE2.out
                          rw [if_pos hzy] at h1
                          have h2 := HA.out
                          rw [← h1] at h2
                          rw [List.take_add_one, Hz.out]
                          exact h2.symm
                        have Hal := Lib.hid hal
                        have HPre := Lib.hid (HI2.out.2.perm (perm_rot' _ _ _))
                        have hzl : zs.length ≤ 40000 := hyl
                        clear hal hzy
                        go_wp2_with (at_builtin; refine wpList_append_sh (st := some (r1, cap1, sp1)) (L := rowL 3 (flatI l) (some (r2, cap2, sp2)) ++ L) rfl (.tmp 85) (.tmp 89) 24 rfl i0 _ 8 Tryd.underlying24 HI.out.1 HI.out.2.1 HI.out.2.2.1 HI.out.2.2.2 rfl (by decide) HPre.out HK.out rfl _ (q + 1) cap2 (flatI (l.take (q + 1))) rfl (by rw [flatI_len, Nat.mul_one, List.length_take]; omega) (row_take_news (q + 1) HI2.out.2) (flatI_one _) (by omega) (by unfold maxLen; omega) (by omega) ?_; intro r6 cap6 sp6 w6 ok6 hS6; have HGr := Lib.hid (And.intro ok6 hS6); clear ok6 hS6 HPre)
                        have hlt1 : (l.take (q + 1)).length = q + 1 := by rw [List.length_take]; omega
                        have HF : Hid (((true = false ∧ zs ++ l.take (q + 1) = zs ∧ alongD g x y (dirs8'.drop (j + 1)) = g.along x y) ∨ (true = true ∧ ∃ m, g.along x y = some m ∧ zs ++ l.take (q + 1) = zs ++ m)) ∧ rowOk 1 (zs ++ l.take (q + 1)).length (flatI (zs ++ l.take (q + 1))) (some (r6, cap6, sp6)) ∧ SH W w6 (rowL 3 (flatI (zs ++ l.take (q + 1))) (some (r6, cap6, sp6)) ++ L)) := by
                          have h1 := HGr.out
                          rw [← flatI_append] at h1
                          refine ⟨.inr ⟨rfl, _, Hal.out, rfl⟩, by rw [List.length_append, hlt1]; exact h1.1, h1.2.sub (List.Sublist.append_left (List.sublist_append_right _ _) _)⟩
                        clear HGr
                        go_wp2_with fail
                        go_roundw
                        case rel => exact ⟨_, _, _, ⟨j + 1, ⟨true⟩, r6, cap6, sp6, zs ++ l.take (q + 1), by rw [List.length_append, hlt1], rfl, by go_num, by omega, Lib.hid ⟨by simpa using HF.out.1, HF.out.2⟩⟩, rfl, rfl, rfl⟩
                        case measure => simp [intOf]; omega
                      · have k1 : (z == y) = false := by simp [hzy]
                        have Q2 : Hid ((upTo y (l.drop (q + 1))).map (l.take (q + 1) ++ ·) = upTo y l) := by
                          show (upTo y (l.drop (q + 1))).map (l.take (q + 1) ++ ·) = upTo y l
                          have h1 := HE2.out
                          rw [if_neg hzy, Option.map_map] at h1
                          rw [← h1, List.take_add_one, Hz.out]
                          congr 1
                          funext u
                          simp
                        clear hzy HE2
                        go_wp2_with fail
                        go_round
                        case rel => exact ⟨q + 1, rfl, rfl, by go_num, by omega, Q2⟩
                        case measure => simp [intOf]; omega
                    · have hql2 : q = l.length := by omega
                      have hup : upTo y l = none := by
                        have h1 := Q.out
                        rw [hql2, List.drop_length] at h1
                        exact h1.symm
                      have HF : Hid (((false = false ∧ zs = zs ∧ alongD g x y (dirs8'.drop (j + 1)) = g.along x y) ∨ (false = true ∧ ∃ m, g.along x y = some m ∧ zs = zs ++ m)) ∧ rowOk 1 zs.length (flatI zs) (some (r1, cap1, sp1)) ∧ SH W w5 (rowL 3 (flatI zs) (some (r1, cap1, sp1)) ++ L)) := by
                        have h2 := HA.out
                        rw [hup] at h2
                        exact ⟨.inl ⟨rfl, rfl, h2⟩, HK.out, HI2.out.2.rest⟩
                      clear hql2 hup Q
                      go_wp2_with fail
                      go_roundw
                      case rel => exact ⟨_, _, _, ⟨j + 1, ⟨false⟩, r1, cap1, sp1, zs, rfl, rfl, by go_num, by omega, Lib.hid ⟨by simpa using HF.out.1, HF.out.2⟩⟩, rfl, rfl, rfl⟩
                      case measure => simp [intOf]; omega
                · cases fb with
                  | false =>
                    have hj8 : j = 8 := by
                      have : ¬ j < 8 := fun h => hgo ⟨h, rfl⟩
                      omega
                    have HZ : Hid (R = (none, 8)) := by
                      show R = (none, 8)
                      have h0 : g.along x y = none := by
                        rcases K.out.1 with h | h
                        · rw [← h.2.2, hj8]; rfl
                        · cases h.1
                      have hE := HE.out
                      rw [h0] at hE
                      have h1 : X = none := by
                        cases h2 : X with
                        | none => rfl
                        | some l => rw [h2] at hE; cases hE
                      rw [HR3.out, h1]
                    have HS9 := Lib.hid K.out.2.2.rest
                    clear K hgo H HE
                    subst hj8
                    go_wp2_with fail
                    go_ret2
                    rw [HZ.out]
                    exact ⟨rfl, HS9.out⟩
                  | true =>
                    obtain ⟨m, hm, hzs⟩ : ∃ m, g.along x y = some m ∧ zs = ys ++ m := by
                      rcases K.out.1 with h | h
                      · cases h.1
                      · exact h.2
                    have hml := along_len _ _ hm
                    have HF6 : Hid (rowOk 1 zs.length (flatI zs) (some (r1, cap1, sp1)) ∧ SH W wr (rowL 3 (flatI zs) (some (r1, cap1, sp1)) ++ L) ∧ zs.length ≤ 34 * (k + 1) + 1 ∧ (expFrom g ((a :: xs).getD (k + 1) 0) (xs.drop (k + 1))).map (zs ++ ·) = X.map ([a] ++ ·)) := by
                      refine ⟨K.out.2.1, K.out.2.2, by rw [hzs]; have := H.out.2.2.1; simp; omega, ?_⟩
                      rw [show (a :: xs).getD (k + 1) 0 = y by simp [List.getD, Hyk.out], hzs]
                      have h2 := HE.out
                      rw [hm] at h2
                      simp only [Option.bind_some] at h2
                      rw [Option.map_map] at h2
                      rw [← h2]
                      congr 1
                      funext z
                      simp
                    clear K H HE hm hml hzs hgo
                    rcases (by omega : j < 8 ∨ j = 8) with hj8 | hj8
                    · have hjd : decide ((j : Int) < 8) = true := decide_eq_true (by omega)
                      clear hj8
                      go_wp2_with fail
                      go_roundw
                      case rel => exact ⟨k + 1, r1, cap1, sp1, zs, rfl, by go_num, by omega, HF6⟩
                      case measure => simp [intOf]; omega
                    · subst hj8
                      go_wp2_with fail
                      go_roundw
                      case rel => exact ⟨k + 1, r1, cap1, sp1, zs, rfl, by go_num, by omega, HF6⟩
                      case measure => simp [intOf]; omega
            · have hk2 : k = n := by omega
              have HZ : Hid (R = (some ys, 0)) := by
                show R = (some ys, 0)
                have h1 := H.out.2.2.2
                rw [hk2, ← Hn.out, List.drop_length] at h1
                rw [HR3.out]
                cases h2 : X with
                | none => rw [h2] at h1; simp [expFrom] at h1
                | some l =>
                  rw [h2] at h1
                  simp [expFrom] at h1
                  simp [h1]
              clear hk2
              go_wp2_with fail
              go_ret2
              rw [HZ.out]
              exact ⟨_, rfl, r, cap, sp, rfl, H.out.1, H.out.2.1⟩
end
end Go.Proofs.YtmabanabdoalaaaDoor
