/- Package jump: along. -/
import Derived.Test.YtmabanabdoalaaaDoorSb
namespace Go.Proofs.YtmabanabdoalaaaDoor
open Go.RowKit

/-- steps in a direction up to a tile -/
def Gd.rayTo (g : Gd) (d b : Int) : Nat → Int → Option (List Int)
  | 0, _ => none
  | n + 1, t => if g.go t d = -1 then none else if g.go t d = b then some [g.go t d] else (g.rayTo d b n (g.go t d)).map (g.go t d :: ·)
def alongD (g : Gd) (a b : Int) : List Int → Option (List Int)
  | [] => none
  | d :: ds => match g.rayTo d b 34 a with
    | some l => some l
    | none => alongD g a b ds
def dirs8' : List Int := [0, 1, 2, 3, 4, 5, 6, 7]
def Gd.along (g : Gd) (a b : Int) : Option (List Int) := alongD g a b dirs8'
theorem rayTo_len {g : Gd} {d b : Int} : ∀ (n : Nat) (t : Int) (l : List Int), g.rayTo d b n t = some l → 0 < l.length ∧ l.length ≤ n := by
  intro n
  induction n with
  | zero => intro t l h; cases h
  | succ n ih =>
    intro t l h
    unfold Gd.rayTo at h
    split at h
    · cases h
    · split at h
      · have := Option.some.inj h; subst this; simp
      · obtain ⟨m, h1, h2⟩ := Option.map_eq_some_iff.1 h
        subst h2
        have := ih _ _ h1
        simp; omega
theorem along_len {g : Gd} {a b : Int} : ∀ (ds : List Int) (l : List Int), alongD g a b ds = some l → 0 < l.length ∧ l.length ≤ 34 := by
  intro ds
  induction ds with
  | nil => intro l h; cases h
  | cons d ds ih =>
    intro l h
    unfold alongD at h
    split at h
    · rename_i m hm
      have := Option.some.inj h
      subst this
      exact rayTo_len _ _ _ hm
    · exact ih _ h
/-- what along answers -/
def AlongP (W : World) (L : List (Nat × Obj)) (o : Option (List Int)) (e : Ending) (w' : World) : Prop :=
  match o with
  | none => e = .returned (.tuple #[.slice none 0 0, .bool false]) ∧ SH W w' L
  | some l => ∃ v, e = .returned (.tuple #[v, .bool true]) ∧ Ints W w' L v l

section
variable {W w : World} {L : List (Nat × Obj)} {p : Nat} {g : Gd}
set_option maxHeartbeats 3200000 in
set_option maxRecDepth 100000 in
theorem along_any (ok : GdOk g) (hS : SH W w L) (hG : GdIn L p g) (a b : Int) :
    Calls Tryd.prog 40 #[.pointer (some ⟨p, 0, none⟩), .int .i64 a, .int .i64 b] w (AlongP W L (g.along a b)) := by
  obtain ⟨R, hR⟩ : ∃ R, g.along a b = R := ⟨_, rfl⟩
  rw [hR]
  have HS := Lib.hid hS
  have HG := Lib.hid hG
  have HR := Lib.hid hR
  obtain ⟨i0, hi1, hz0, hz1, hz2⟩ := info_parts infoInt
  have HI := Lib.hid (And.intro hi1 (And.intro hz0 (And.intro hz1 hz2)))
  clear hS hG hR hi1 hz0 hz1 hz2
  go_enter Tryd.func40, Tryd.ntmps40
  go_wp2_with fail
  go_loopw [13] (fun u wr => ∃ j : Nat, u = .int .i64 j ∧ j ≤ 8 ∧ Hid (SH W wr L ∧ alongD g a b (dirs8'.drop j) = R)) (fun u _ => 8 - (intOf u).toNat)
  case atStart => exact ⟨0, rfl, Nat.zero_le _, HS.out, HR.out⟩
  case round =>
    obtain ⟨j, rfl, hj, H⟩ := hrel
    clear HS HR
    by_cases hlt : j < 8
    · have hdr : dirs8'.drop j = (j : Int) :: dirs8'.drop (j + 1) := by
        match j, hlt with
        | 0, _ | 1, _ | 2, _ | 3, _ | 4, _ | 5, _ | 6, _ | 7, _ => rfl
      have hA := H.out.2
      rw [hdr] at hA
      unfold alongD at hA
      have HA := Lib.hid hA
      have hr0 : Hid (g.fre a = true → g.rank (j : Int) a < 34) := fun h => by have := rank_le ok (j : Int) h; omega
      have hjd : decide ((j : Int) < 8) = true := decide_eq_true (by omega)
      clear hA hdr
      go_wp2_with fail
      obtain ⟨wo, rfl⟩ : ∃ wo, wo = wr := ⟨_, rfl⟩
      go_loopg [9, 10] 34 (fun gm u t wr => ∃ (t' : Int) (st : St) (ys : List Int), u = rowV ys.length st ∧ t = .int .i64 t' ∧ Hid (0 < gm ∧ ys.length + gm ≤ 34 ∧ (g.fre t' = true → g.rank (j : Int) t' < gm) ∧ g.rayTo j b 34 a = (g.rayTo j b gm t').map (ys ++ ·) ∧ rowOk 1 ys.length (flatI ys) st ∧ SH W wr (rowL 3 (flatI ys) st ++ L)))
      case atStart => exact ⟨a, none, [], rfl, rfl, by omega, by simp, hr0.out, by simp, ⟨rfl, rfl⟩, H.out.1⟩
      case round =>
        obtain ⟨t', st, ys, rfl, rfl, K⟩ := hrel
        clear H hr0
        obtain ⟨n, hn⟩ : ∃ n, gk = n + 1 := ⟨gk - 1, by have := K.out.1; omega⟩
        have hE := K.out.2.2.2.1
        rw [hn] at hE
        have HG2 := Lib.hid (HG.out.mono (M := rowL 3 (flatI ys) st ++ L) (fun x h => List.mem_append_right _ h))
        by_cases h1 : g.go t' j = -1
        · have HZ : Hid (alongD g a b (dirs8'.drop (j + 1)) = R) := by
            have h2 : g.rayTo j b 34 a = none := by rw [hE]; unfold Gd.rayTo; rw [if_pos h1]; rfl
            have := HA.out
            rw [h2] at this
            exact this
          have H1 := Lib.hid h1
          clear h1 hE hn
          go_wp2_with fail
          refine (go_none ok K.out.2.2.2.2.2 HG2.out H1.out).mono ?_
          rintro e w1 ⟨rfl, hb⟩
          have HF : Hid (SH W (w1.alloc (.cells #[.int .i64 0, .int .i64 0, .int .i64 0] 37)) L ∧ alongD g a b (dirs8'.drop (j + 1)) = R) := ⟨((K.out.2.2.2.2.2.below hb).rest.alloc _).tail, HZ.out⟩
          clear hb K HZ HA
          go_wp2_with fail
          go_roundw
          case rel => exact ⟨j + 1, by go_num, by omega, HF⟩
          case measure => simp [intOf]; omega
        · have hrk := rank_lt ok h1
          have hf := (go_from h1).1
          have H1 := Lib.hid h1
          obtain ⟨T, hT⟩ : ∃ T, g.go t' j = T := ⟨_, rfl⟩
          have hE2 : g.rayTo j b 34 a = (if T = b then some [T] else (g.rayTo j b n T).map (T :: ·)).map (ys ++ ·) := by
            rw [hE, ← hT]; conv => lhs; unfold Gd.rayTo
            rw [if_neg h1]
          rw [hT] at hrk
          have HT := Lib.hid hT
          have HE2 := Lib.hid hE2
          have Hrk := Lib.hid (And.intro hrk hf)
          have Hn := Lib.hid hn
          have hyl : ys.length ≤ 40 := by have := K.out.2.1; omega
          clear h1 hE hn hT hE2 hrk hf
          go_wp2_with fail
          refine (go_some ok K.out.2.2.2.2.2 HG2.out H1.out).mono ?_
          rintro e w1 ⟨rfl, hb⟩
          rw [HT.out]
          have HB := Lib.hid (K.out.2.2.2.2.2.below hb)
          have HC := Lib.hid ((((HB.out).alloc (.cells #[.int .i64 j, .int .i64 T, .int .i64 (costN j)] 37)).tail).alloc (.cells #[.int .i64 T] 3))
          have hcond : T = b ∨ T ≠ b := Classical.em _
          clear hb
          rcases hcond with h2 | h2
          · have k1 : (T == b) = true := by simp [h2]
            have HZ : Hid (R = some (ys ++ [T])) := by
              have h3 := HA.out
              rw [HE2.out, if_pos h2] at h3
              exact h3.symm
            clear h2
            go_wp2_with (at_builtin; refine wpList_append_sh (st := st) (L := L) rfl (.tmp 28) (.tmp 30) 24 rfl i0 _ 8 Tryd.underlying24 HI.out.1 HI.out.2.1 HI.out.2.2.1 HI.out.2.2.2 rfl (by decide) HC.out.tail K.out.2.2.2.2.1 rfl _ 1 1 [.int .i64 T] rfl rfl (newsAt HC.out (by simp)) (by intro u hu; simp at hu; subst hu; rfl) (by decide) (by unfold maxLen; omega) (by omega) ?_; intro r' cap' sp' w5 ok1 hS1; have HGr := Lib.hid (And.intro ok1 hS1); clear ok1 hS1 HC HB)
            have e1 : flatI ys ++ [.int .i64 T] = flatI (ys ++ [T]) := by rw [flatI_append]; rfl
            have HS5 : Hid (rowOk 1 (ys ++ [T]).length (flatI (ys ++ [T])) (some (r', cap', sp')) ∧ SH W w5 (rowL 3 (flatI (ys ++ [T])) (some (r', cap', sp')) ++ L)) := by
              have := HGr.out
              rw [e1] at this
              exact ⟨by simpa using this.1, this.2⟩
            clear e1 HGr
            go_wp2_with fail
            go_ret2
            rw [HZ.out]
            refine ⟨_, rfl, r', cap', sp', ?_, HS5.out.1, HS5.out.2⟩
            simp
          · have k1 : (T == b) = false := by simp [h2]
            have HZ : Hid (g.rayTo j b 34 a = (g.rayTo j b n T).map ((ys ++ [T]) ++ ·)) := by
              show g.rayTo j b 34 a = (g.rayTo j b n T).map ((ys ++ [T]) ++ ·)
              rw [HE2.out, if_neg h2]
              simp [Option.map_map, Function.comp_def]
            clear h2
            go_wp2_with (at_builtin; refine wpList_append_sh (st := st) (L := L) rfl (.tmp 28) (.tmp 30) 24 rfl i0 _ 8 Tryd.underlying24 HI.out.1 HI.out.2.1 HI.out.2.2.1 HI.out.2.2.2 rfl (by decide) HC.out.tail K.out.2.2.2.2.1 rfl _ 1 1 [.int .i64 T] rfl rfl (newsAt HC.out (by simp)) (by intro u hu; simp at hu; subst hu; rfl) (by decide) (by unfold maxLen; omega) (by omega) ?_; intro r' cap' sp' w5 ok1 hS1; have HGr := Lib.hid (And.intro ok1 hS1); clear ok1 hS1 HC HB)
            have e1 : flatI ys ++ [.int .i64 T] = flatI (ys ++ [T]) := by rw [flatI_append]; rfl
            have HS5 : Hid (rowOk 1 (ys ++ [T]).length (flatI (ys ++ [T])) (some (r', cap', sp')) ∧ SH W w5 (rowL 3 (flatI (ys ++ [T])) (some (r', cap', sp')) ++ L)) := by
              have := HGr.out
              rw [e1] at this
              exact ⟨by simpa using this.1, this.2⟩
            clear e1 HGr
            go_wp2_with fail
            have HF : Hid (0 < n ∧ (ys ++ [T]).length + n ≤ 34 ∧ (g.fre T = true → g.rank (j : Int) T < n) ∧ g.rayTo j b 34 a = (g.rayTo j b n T).map ((ys ++ [T]) ++ ·) ∧ rowOk 1 (ys ++ [T]).length (flatI (ys ++ [T])) (some (r', cap', sp')) ∧ SH W w5 (rowL 3 (flatI (ys ++ [T])) (some (r', cap', sp')) ++ L)) := by
              have h1 := K.out.2.2.1 Hrk.out.2
              have h2 := Hrk.out.1
              have h3 := Hn.out
              have h4 := K.out.2.1
              exact ⟨by omega, by simp; omega, fun _ => by omega, HZ.out, HS5.out.1, HS5.out.2⟩
            have hlt2 : n < gk := by have := Hn.out; omega
            clear K HS5 HZ HE2
            go_roundg n
            case measure => exact hlt2
            case rel => exact ⟨T, some (r', cap', sp'), ys ++ [T], by simp [rowV], rfl, HF⟩
    · have hj8 : j = 8 := by omega
      have HZ : Hid (R = none) := by
        have := H.out.2
        rw [hj8] at this
        exact this.symm
      have HS9 := Lib.hid H.out.1
      clear hj8 H
      go_wp2_with fail
      go_ret2
      rw [HZ.out]
      exact ⟨rfl, HS9.out⟩
end
end Go.Proofs.YtmabanabdoalaaaDoor
