/- Package jump: what reach does. -/
import Derived.Test.YtmabanabdoalaaaDoorSb
import Derived.Test.YtmabanabdoalaaaDoorHpE
import Derived.Test.YtmabanabdoalaaaDoorHpM
namespace Go.Proofs.YtmabanabdoalaaaDoor
open Go.RowKit

theorem jumpE_fre {g : Gd} {d goal : Int} : ∀ (n : Nat) (t : Int), g.jumpE d goal n t ≠ -1 → g.fre (g.jumpE d goal n t) = true := by
  intro n
  induction n with
  | zero => intro t h; exact absurd rfl h
  | succ n ih =>
    intro t h
    unfold Gd.jumpE at h ⊢
    by_cases h1 : g.go t d = -1
    · rw [if_pos h1] at h; exact absurd rfl h
    · rw [if_neg h1] at h ⊢
      split
      · exact go_fre h1
      · split
        · exact go_fre h1
        · rename_i h2 h3
          rw [if_neg h2, if_neg h3] at h
          exact ih _ h
theorem jumpO_fre {g : Gd} {d goal : Int} : ∀ (n : Nat) (t : Int), g.jumpO d goal n t ≠ -1 → g.fre (g.jumpO d goal n t) = true := by
  intro n
  induction n with
  | zero => intro t h; exact absurd rfl h
  | succ n ih =>
    intro t h
    unfold Gd.jumpO at h ⊢
    by_cases h1 : g.go t d = -1
    · rw [if_pos h1] at h; exact absurd rfl h
    · rw [if_neg h1] at h ⊢
      split
      · exact go_fre h1
      · split
        · exact go_fre h1
        · rename_i h2 h3
          rw [if_neg h2, if_neg h3] at h
          exact ih _ h
theorem jump_fre {g : Gd} {t d goal : Int} (h : g.jump t d goal ≠ -1) : g.fre (g.jump t d goal) = true := by
  unfold Gd.jump at h ⊢
  split
  · rename_i he; rw [if_pos he] at h; exact jumpE_fre _ _ h
  · rename_i he; rw [if_neg he] at h; exact jumpO_fre _ _ h

/-- what a search knows: the heap, costs, and where tiles were come to from -/
structure Sr where
  hp : List (Int × Int)
  cs : List Int
  fs : List Int
structure Ids where
  q : Nat
  hp : Nat
  rc : Nat
  rf : Nat
  p : Nat
def srO (i : Ids) (goal : Int) (n : Nat) : Obj := .cells #[.pointer (some ⟨i.p, 0, none⟩), .pointer (some ⟨i.hp, 0, none⟩), .int .i64 goal, .slice (some ⟨i.rc, 0, none⟩) n n, .slice (some ⟨i.rf, 0, none⟩) n n] 83 (0, 0)
def inO (l : List Int) : Obj := .cells (flatI l).toArray 3 (0, 0)
def srL (i : Ids) (goal : Int) (n : Nat) (cs fs : List Int) : List (Nat × Obj) := [(i.q, srO i goal n), (i.rc, inO cs), (i.rf, inO fs)]
abbrev SrAt (W w : World) (i : Ids) (goal : Int) (n : Nat) (s : Sr) (L : List (Nat × Obj)) : Prop := HpAt W w i.hp s.hp (srL i goal n s.cs s.fs ++ L)
theorem Own.setAt {P : List (Nat × Obj) → Prop} {W w : World} {L : List (Nat × Obj)} {b i off : Nat} {c : Array Value} {E : TypeId} {fr : Nat × Nat} {v : Value} (h : Own P W w L) (hi : L[i]? = some (b, .cells c E fr)) :
    Own P W (w.setCell ⟨b, off, none⟩ v) (L.set i (b, .cells (c.setIfInBounds off v) E fr)) := by
  obtain ⟨M, hM, hS⟩ := h
  refine ⟨M, hM, ?_⟩
  have h1 := hS.setAt (i := M.length + i) (off := off) (v := v) (by rw [List.getElem?_append_right (by omega), show M.length + i - M.length = i by omega]; exact hi)
  rw [List.set_append_right _ _ (by omega), show M.length + i - M.length = i by omega] at h1
  exact h1
theorem flatI_set {l : List Int} {k : Nat} {x : Int} : (flatI l).toArray.setIfInBounds k (.int .i64 x) = (flatI (l.set k x)).toArray := by
  rw [List.setIfInBounds_toArray, flatI_map, flatI_map, List.map_set]
theorem flatI_get' {es : List Int} {i : Nat} {x : Int} (hx : es[i]? = some x) : (flatI es).toArray[i]? = some (.int .i64 x) := by
  have := flatI_get (sp := []) hx
  simpa using this

/-- a tile is reached -/
def reachF (g : Gd) (goal : Int) (s : Sr) (t fr c : Int) : Sr :=
  if s.cs.getD t.toNat 0 ≠ -1 ∧ s.cs.getD t.toNat 0 ≤ c then s else ⟨pushL s.hp (c + g.guess t goal, t), s.cs.set t.toNat c, s.fs.set t.toNat fr⟩

section
variable {W w : World} {L : List (Nat × Obj)} {i : Ids} {g : Gd} {goal : Int} {n : Nat} {s : Sr}
set_option maxHeartbeats 3200000 in
set_option maxRecDepth 100000 in
theorem reach_ok (ok : GdOk g) (hH : SrAt W w i goal n s L) (hG : GdIn L i.p g) (hc : s.cs.length = n) (hf : s.fs.length = n) (hn : n = g.fr.length) {t : Int} (ht : g.fre t = true) (hg : g.fre goal = true) (fr : Int) {c : Int} (c0 : 0 ≤ c) (c1 : c ≤ 1000000000) (hh : s.hp.length < 16384) :
    Calls Tryd.prog 43 #[.pointer (some ⟨i.q, 0, none⟩), .int .i64 t, .int .i64 fr, .int .i64 c] w fun e w' => e = .returned .nilIface ∧ SrAt W w' i goal n (reachF g goal s t fr c) L := by
  have hb := fre_bd ht
  have HT := Lib.hid (And.intro ht hg)
  have hgb := Lib.hid (guess_bd ok ht hg)
  obtain ⟨k, rfl⟩ := Int.eq_ofNat_of_zero_le hb.1
  have hk : k < n := by omega
  obtain ⟨old, hold⟩ : ∃ x, s.cs[k]? = some x := ⟨s.cs[k]'(by omega), by simp⟩
  obtain ⟨oldf, holdf⟩ : ∃ x, s.fs[k]? = some x := ⟨s.fs[k]'(by omega), by simp⟩
  have HH := Lib.hid hH
  have HG := Lib.hid hG
  have hS := hH.SH
  have q0 : w.cell? ⟨i.q, 0, none⟩ = some (.pointer (some ⟨i.p, 0, none⟩)) := hS.cell (.head _) rfl
  have q2 : w.cell? ⟨i.q, 2, none⟩ = some (.int .i64 goal) := hS.cell (.head _) rfl
  have q3 : w.cell? ⟨i.q, 3, none⟩ = some (.slice (some ⟨i.rc, 0, none⟩) n n) := hS.cell (.head _) rfl
  have q4 : w.cell? ⟨i.q, 4, none⟩ = some (.slice (some ⟨i.rf, 0, none⟩) n n) := hS.cell (.head _) rfl
  have a0 : w.cell? ⟨i.rc, k, none⟩ = some (.int .i64 old) := hS.cell (.tail _ (.head _)) (flatI_get' hold)
  have a1 : w.cell? ⟨i.rf, k, none⟩ = some (.int .i64 oldf) := hS.cell (.tail _ (.tail _ (.head _))) (flatI_get' holdf)
  have f0 : ∀ o, w.frozen? ⟨i.rc, o, none⟩ = false := fun o => hS.free (.tail _ (.head _))
  have f1 : ∀ o, w.frozen? ⟨i.rf, o, none⟩ = false := fun o => hS.free (.tail _ (.tail _ (.head _)))
  have n1 : i.rc ≠ i.q := (hS.ne (.head _)).symm
  have n2 : i.rf ≠ i.q := (hS.ne (.tail _ (.head _))).symm
  have n3 : i.rf ≠ i.rc := (hS.tail.ne (.head _)).symm
  have hgd : s.cs.getD (k : Int).toNat 0 = old := by simp [hold]
  have HR : Hid (reachF g goal s k fr c = if old ≠ -1 ∧ old ≤ c then s else ⟨pushL s.hp (c + g.guess k goal, k), s.cs.set k c, s.fs.set k fr⟩) := by
    show reachF g goal s k fr c = _
    unfold reachF
    rw [hgd, Int.toNat_natCast]
  have Hl := Lib.hid (And.intro hc (And.intro hf hn))
  have hk2 : (k : Int) < (n : Int) := by omega
  have hnb : n ≤ 1024 := by rw [hn, ok.len]; exact mul_le_1024 ok.w2 ok.h2
  clear hb ht hg hold holdf hH hG hS hgd hc hf hn
  by_cases hset : old ≠ -1 ∧ old ≤ c
  · obtain ⟨h1, h2⟩ := hset
    have k1 : (old != -1) = true := by simp [h1]
    have HZ : Hid (reachF g goal s k fr c = s) := by have := HR.out; rw [if_pos ⟨h1, h2⟩] at this; exact this
    have h2' : decide (old ≤ c) = true := decide_eq_true h2
    clear h1 HR
    go_enter Tryd.func43, Tryd.ntmps43
    go_wp2_with fail
    go_ret
    exact ⟨rfl, by rw [HZ.out]; exact HH.out⟩
  have HZ : Hid (reachF g goal s k fr c = ⟨pushL s.hp (c + g.guess k goal, k), s.cs.set k c, s.fs.set k fr⟩) := by have := HR.out; rw [if_neg hset] at this; exact this
  have hsp : old = -1 ∨ (old ≠ -1 ∧ ¬ old ≤ c) := by
    by_cases h : old = -1
    · exact .inl h
    · exact .inr ⟨h, fun h2 => hset ⟨h, h2⟩⟩
  clear hset HR
  rcases hsp with h1 | ⟨h1, h2⟩
  case' inl =>
    have k1 : (old != -1) = false := by simp [h1]
    clear h1
  case' inr =>
    have k1 : (old != -1) = true := by simp [h1]
    have h2' : decide (old ≤ c) = false := decide_eq_false h2
    clear h1 h2
  all_goals
    go_enter Tryd.func43, Tryd.ntmps43
    go_wp2_with fail
    go_region
    have HO := Lib.hid ((Own.setAt (i := 2) (off := k) (v := .int .i64 fr) (Own.setAt (i := 1) (off := k) (v := .int .i64 c) HH.out rfl) rfl).drew)
    have HH2 : Hid (SrAt W ((w.setCell ⟨i.rc, k, none⟩ (.int .i64 c)).setCell ⟨i.rf, k, none⟩ (.int .i64 fr)).drew i goal n ⟨s.hp, s.cs.set k c, s.fs.set k fr⟩ L) := by
      have h3 := HO.out
      rw [flatI_set, flatI_set] at h3
      exact h3
    generalize ((w.setCell ⟨i.rc, k, none⟩ (.int .i64 c)).setCell ⟨i.rf, k, none⟩ (.int .i64 fr)).drew = w2 at HH2 ⊢
    clear q0 q2 q3 q4 a0 a1 f0 f1 n1 n2 n3 HO HH k1
    obtain ⟨M, hM, hSM⟩ := HH2.out
    have HM := Lib.hid (And.intro hM hSM)
    have HG3 := Lib.hid (HG.out.mono (M := M ++ (srL i goal n (s.cs.set k c) (s.fs.set k fr) ++ L)) (fun x h => List.mem_append_right _ (List.mem_append_right _ h)))
    have m0 : (i.q, srO i goal n) ∈ M ++ (srL i goal n (s.cs.set k c) (s.fs.set k fr) ++ L) := List.mem_append_right _ (.head _)
    have q0 : ∀ x : SHW W (M ++ (srL i goal n (s.cs.set k c) (s.fs.set k fr) ++ L)), x.w.cell? ⟨i.q, 0, none⟩ = some (.pointer (some ⟨i.p, 0, none⟩)) := fun x => x.ok.cell m0 rfl
    have q2 : ∀ x : SHW W (M ++ (srL i goal n (s.cs.set k c) (s.fs.set k fr) ++ L)), x.w.cell? ⟨i.q, 2, none⟩ = some (.int .i64 goal) := fun x => x.ok.cell m0 rfl
    have hne : Nonempty (SHW W (M ++ (srL i goal n (s.cs.set k c) (s.fs.set k fr) ++ L))) := ⟨⟨_, hSM⟩⟩
    have Hm0 := Lib.hid m0
    clear hM hSM m0
    go_wp2_with fail
    refine wp_region_sh (by kernel_rfl) (by kernel_rfl) HM.out.2 ?_
    repeat (go_big_quiet_step (refine calls_sh (guess_ok ok (SHW.ok _) HG3.out HT.out.1 HT.out.2)))
    refine wpQuiet_nil ?_
    rintro ⟨w3, hS3⟩
    dsimp only
    have hH3 : SrAt W w3 i goal n ⟨s.hp, s.cs.set k c, s.fs.set k fr⟩ L := ⟨M, HM.out.1, hS3⟩
    have HH3 := Lib.hid hH3
    have q1 : w3.cell? ⟨i.q, 1, none⟩ = some (.pointer (some ⟨i.hp, 0, none⟩)) := hS3.cell Hm0.out rfl
    obtain ⟨G, hG⟩ : ∃ G, g.guess k goal = G := ⟨_, rfl⟩
    have Hgg := Lib.hid hG
    have hgb2 := hgb.out
    rw [hG] at hgb2
    rw [hG]
    clear hS3 hH3 q0 q2 hne hG hgb
    go_wp2_with fail
    have HA := Lib.hid (HH3.out.alloc (.cells #[.int .i64 (c + G), .int .i64 k] 110))
    have hx : Sl encE 2 ((w3.heap.size, Obj.cells #[.int .i64 (c + G), .int .i64 k] 110 (0, 0)) :: (srL i goal n (s.cs.set k c) (s.fs.set k fr) ++ L)) (.slice (some ⟨w3.heap.size, 0, none⟩) 1 1) [(c + G, (k : Int))] :=
      ⟨_, 1, rfl, Nat.le_refl _, .inr ⟨_, 0, _, _, _, rfl, .head _, fun a x hx j u hu => by
        rcases a with _ | a
        · simp at hx
          subst hx
          rcases j with _ | _ | j
          · simpa [encE] using hu
          · simpa [encE] using hu
          · simp [encE] at hu
        · simp at hx⟩⟩
    have HX := Lib.hid hx
    clear hx
    refine (push_ok HA.out HX.out (by simp; omega)).mono ?_
    rintro e w4 ⟨rfl, hH4⟩
    have HH4 := Lib.hid hH4.tail
    clear hH4
    go_wp2_with fail
    go_ret
    refine ⟨rfl, ?_⟩
    rw [HZ.out, Hgg.out]
    exact HH4.out
end
end Go.Proofs.YtmabanabdoalaaaDoor
