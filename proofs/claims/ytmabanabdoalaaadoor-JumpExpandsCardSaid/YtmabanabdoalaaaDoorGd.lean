/- Grids of tiles: steps, rays, jumps. Plain Lean, no program in sight. -/
import Derived.Test.YtmabanabdoalaaaDoorRows
namespace Go.Proofs.YtmabanabdoalaaaDoor

structure Gd where
  w : Nat
  h : Nat
  fr : List Bool
structure GdOk (g : Gd) : Prop where
  w1 : 1 ≤ g.w
  w2 : g.w ≤ 32
  h1 : 1 ≤ g.h
  h2 : g.h ≤ 32
  len : g.fr.length = g.w * g.h

def dxN : Nat → Int
  | 0 => 1 | 1 => 1 | 2 => 0 | 3 => -1 | 4 => -1 | 5 => -1 | 6 => 0 | _ => 1
def dyN : Nat → Int
  | 0 => 0 | 1 => 1 | 2 => 1 | 3 => 1 | 4 => 0 | 5 => -1 | 6 => -1 | _ => -1

/-- is a tile free? -/
def Gd.fre (g : Gd) (t : Int) : Bool := decide (0 ≤ t) && (g.fr[t.toNat]?.getD false)
/-- is there a free tile of a column and row? -/
def Gd.is (g : Gd) (x y : Int) : Bool := decide (0 ≤ x ∧ x < g.w ∧ 0 ≤ y ∧ y < g.h) && g.fre (y * g.w + x)
def Gd.to (g : Gd) (t : Int) (d : Nat) : Int :=
  if g.is (t % g.w + dxN d) (t / g.w + dyN d) = true then (t / g.w + dyN d) * g.w + (t % g.w + dxN d) else -1
/-- a step; -1: there is none -/
def Gd.go (g : Gd) (t d : Int) : Int :=
  if g.fre t = true ∧ 0 ≤ d ∧ d < 8 then
    if g.to t d.toNat = -1 then -1
    else if d % 2 = 0 then g.to t d.toNat
    else if g.to t (d.toNat - 1) = -1 ∨ g.to t ((d.toNat + 1) % 8) = -1 then -1 else g.to t d.toNat
  else -1

section
variable {g : Gd} {t x y : Int}
theorem fre_bd (h : g.fre t = true) : 0 ≤ t ∧ t < g.fr.length := by
  unfold Gd.fre at h
  simp only [Bool.and_eq_true, decide_eq_true_eq] at h
  refine ⟨h.1, ?_⟩
  have h2 := h.2
  by_cases hl : t.toNat < g.fr.length
  · omega
  · rw [List.getElem?_eq_none (by omega)] at h2
    cases h2
theorem fre_get (h0 : 0 ≤ t) {b : Bool} (hb : g.fr[t.toNat]? = some b) : g.fre t = b := by
  unfold Gd.fre
  simp [h0, hb]
theorem is_bd (h : g.is x y = true) : 0 ≤ x ∧ x < g.w ∧ 0 ≤ y ∧ y < g.h ∧ g.fre (y * g.w + x) = true := by
  unfold Gd.is at h
  simp only [Bool.and_eq_true, decide_eq_true_eq] at h
  exact ⟨h.1.1, h.1.2.1, h.1.2.2.1, h.1.2.2.2, h.2⟩
theorem mod_row {w x y : Int} (h0 : 0 ≤ x) (h1 : x < w) : (y * w + x) % w = x := by
  rw [Int.add_comm, Int.add_mul_emod_self_right]
  exact Int.emod_eq_of_lt h0 h1
theorem div_row {w x y : Int} (h0 : 0 ≤ x) (h1 : x < w) : (y * w + x) / w = y := by
  rw [Int.add_comm, Int.add_mul_ediv_right _ _ (by omega), Int.ediv_eq_zero_of_lt h0 h1]
  omega
theorem row_nonneg {w x y : Int} (hw : 0 ≤ w) (h0 : 0 ≤ x) (h1 : 0 ≤ y) : 0 ≤ y * w + x := by
  have := Int.mul_nonneg h1 hw
  omega
theorem to_or (g : Gd) (t : Int) (d : Nat) : g.to t d = -1 ∨ (g.is (t % g.w + dxN d) (t / g.w + dyN d) = true ∧ g.to t d = (t / g.w + dyN d) * g.w + (t % g.w + dxN d) ∧ 0 ≤ g.to t d) := by
  unfold Gd.to
  by_cases h : g.is (t % g.w + dxN d) (t / g.w + dyN d) = true
  · rw [if_pos h]
    have := is_bd h
    exact .inr ⟨h, rfl, row_nonneg (by omega) this.1 this.2.2.1⟩
  · rw [if_neg h]
    exact .inl rfl
theorem to_is (g : Gd) (t : Int) (d : Nat) : g.to t d ≠ -1 ↔ g.is (t % g.w + dxN d) (t / g.w + dyN d) = true := by
  constructor
  · intro h
    rcases to_or g t d with h1 | h1
    · exact absurd h1 h
    · exact h1.1
  · intro h
    rcases to_or g t d with h1 | ⟨_, h2, h3⟩
    · unfold Gd.to at h1
      rw [if_pos h] at h1
      have := is_bd h
      have := row_nonneg (w := g.w) (by omega) this.1 this.2.2.1
      omega
    · omega
theorem go_or (g : Gd) (t d : Int) : g.go t d = -1 ∨ (g.fre t = true ∧ 0 ≤ d ∧ d < 8 ∧ g.go t d = g.to t d.toNat ∧ g.to t d.toNat ≠ -1) := by
  unfold Gd.go
  by_cases h : g.fre t = true ∧ 0 ≤ d ∧ d < 8
  · rw [if_pos h]
    by_cases h1 : g.to t d.toNat = -1
    · rw [if_pos h1]; exact .inl rfl
    · rw [if_neg h1]
      split
      · exact .inr ⟨h.1, h.2.1, h.2.2, rfl, h1⟩
      · split
        · exact .inl rfl
        · exact .inr ⟨h.1, h.2.1, h.2.2, rfl, h1⟩
  · rw [if_neg h]; exact .inl rfl
theorem go_fre {t d : Int} (h : g.go t d ≠ -1) : g.fre (g.go t d) = true := by
  rcases go_or g t d with h1 | ⟨_, _, _, h4, h5⟩
  · exact absurd h1 h
  · rw [h4]
    rcases to_or g t d.toNat with h6 | ⟨h6, h7, _⟩
    · exact absurd h6 h5
    · rw [h7]; exact (is_bd h6).2.2.2.2
theorem go_nonneg {t d : Int} (h : g.go t d ≠ -1) : 0 ≤ g.go t d := (fre_bd (go_fre h)).1
theorem go_ge (g : Gd) (t d : Int) : -1 ≤ g.go t d := by
  by_cases h : g.go t d = -1
  · omega
  · have := go_nonneg h; omega
theorem go_from {t d : Int} (h : g.go t d ≠ -1) : g.fre t = true ∧ 0 ≤ d ∧ d < 8 := by
  rcases go_or g t d with h1 | ⟨h1, h2, h3, _⟩
  · exact absurd h1 h
  · exact ⟨h1, h2, h3⟩
/-- an even step from a free tile -/
theorem go_even {t : Int} {d : Nat} (hf : g.fre t = true) (h8 : d < 8) (he : d % 2 = 0) : g.go t d = g.to t d := by
  unfold Gd.go
  rw [if_pos ⟨hf, by omega, by omega⟩, Int.toNat_natCast]
  by_cases h1 : g.to t d = -1
  · rw [if_pos h1, h1]
  · rw [if_neg h1, if_pos (by omega)]

/-- how many steps in a direction there may be yet -/
def Gd.rank (g : Gd) (d : Int) (t : Int) : Nat :=
  if d = 2 then ((g.h : Int) - t / g.w).toNat else if d = 6 then (t / g.w + 1).toNat
  else if d = 3 ∨ d = 4 ∨ d = 5 then (t % g.w + 1).toNat else ((g.w : Int) - t % g.w).toNat
theorem dir8 {d : Int} (h0 : 0 ≤ d) (h8 : d < 8) : d = 0 ∨ d = 1 ∨ d = 2 ∨ d = 3 ∨ d = 4 ∨ d = 5 ∨ d = 6 ∨ d = 7 := by omega
theorem tile_bd (ok : GdOk g) {t : Int} (h : g.fre t = true) : 0 ≤ t % g.w ∧ t % g.w < g.w ∧ 0 ≤ t / g.w ∧ t / g.w < g.h := by
  have hb := fre_bd h
  have hw := ok.w1
  have hl := ok.len
  refine ⟨Int.emod_nonneg _ (by omega), Int.emod_lt_of_pos _ (by omega), Int.ediv_nonneg hb.1 (by omega), Int.ediv_lt_of_lt_mul (by omega) ?_⟩
  rw [hl] at hb
  have := hb.2
  rw [Int.mul_comm]
  simpa using this
theorem rank_lt (ok : GdOk g) {t d : Int} (h : g.go t d ≠ -1) : g.rank d (g.go t d) < g.rank d t := by
  obtain ⟨hf, h0, h8⟩ := go_from h
  have hb := tile_bd ok hf
  rcases go_or g t d with h1 | ⟨_, _, _, h4, h5⟩
  · exact absurd h1 h
  · rcases to_or g t d.toNat with h6 | ⟨h6, h7, _⟩
    · exact absurd h6 h5
    · have hi := is_bd h6
      rw [h4, h7]
      have e1 := mod_row (w := g.w) (y := t / g.w + dyN d.toNat) hi.1 hi.2.1
      have e2 := div_row (w := g.w) (y := t / g.w + dyN d.toNat) hi.1 hi.2.1
      unfold Gd.rank
      rw [e1, e2]
      rcases dir8 h0 h8 with rfl | rfl | rfl | rfl | rfl | rfl | rfl | rfl <;> simp [dxN, dyN] at hi ⊢ <;> omega
theorem rank_le (ok : GdOk g) {t : Int} (d : Int) (hf : g.fre t = true) : g.rank d t ≤ 32 := by
  have hb := tile_bd ok hf
  have h1 := ok.w2
  have h2 := ok.h2
  unfold Gd.rank
  split
  · omega
  · split
    · omega
    · split <;> omega

def turn (d by' : Int) : Int := (d + by' + 8) % 8
/-- beside a straight step a tile is free, while that beside where it came from isn't -/
def Gd.beside (g : Gd) (a b s : Int) : Bool := decide (g.go b s ≠ -1) && decide (g.go a s = -1)
/-- a jump in a straight direction -/
def Gd.jumpE (g : Gd) (d goal : Int) : Nat → Int → Int
  | 0, _ => -1
  | n + 1, t => if g.go t d = -1 then -1 else if g.go t d = goal then g.go t d
    else if (g.beside t (g.go t d) (turn d (-2)) || g.beside t (g.go t d) (turn d 2)) = true then g.go t d else g.jumpE d goal n (g.go t d)
/-- a jump in a slanting direction -/
def Gd.jumpO (g : Gd) (d goal : Int) : Nat → Int → Int
  | 0, _ => -1
  | n + 1, t => if g.go t d = -1 then -1 else if g.go t d = goal then g.go t d
    else if g.jumpE (turn d (-1)) goal 34 (g.go t d) ≠ -1 ∨ g.jumpE (turn d 1) goal 34 (g.go t d) ≠ -1 then g.go t d else g.jumpO d goal n (g.go t d)
def Gd.jump (g : Gd) (t d goal : Int) : Int := if d % 2 = 0 then g.jumpE d goal 34 t else g.jumpO d goal 34 t

theorem jumpE_mono (ok : GdOk g) (d goal : Int) : ∀ (n m : Nat) (t : Int), (g.fre t = true → g.rank d t < n) → (g.fre t = true → g.rank d t < m) → 0 < n → 0 < m → g.jumpE d goal n t = g.jumpE d goal m t := by
  intro n
  induction n with
  | zero => intro m t _ _ h; omega
  | succ n ih =>
    intro m t hn hm _ hm0
    obtain ⟨m, rfl⟩ : ∃ k, m = k + 1 := ⟨m - 1, by omega⟩
    unfold Gd.jumpE
    by_cases h1 : g.go t d = -1
    · rw [if_pos h1, if_pos h1]
    · have hf := (go_from h1).1
      have hr := rank_lt ok h1
      have h2 := hn hf
      have h3 := hm hf
      rw [if_neg h1, if_neg h1]
      split
      · rfl
      · split
        · rfl
        · exact ih m _ (fun _ => by omega) (fun _ => by omega) (by omega) (by omega)
theorem jumpO_mono (ok : GdOk g) (d goal : Int) : ∀ (n m : Nat) (t : Int), (g.fre t = true → g.rank d t < n) → (g.fre t = true → g.rank d t < m) → 0 < n → 0 < m → g.jumpO d goal n t = g.jumpO d goal m t := by
  intro n
  induction n with
  | zero => intro m t _ _ h; omega
  | succ n ih =>
    intro m t hn hm _ hm0
    obtain ⟨m, rfl⟩ : ∃ k, m = k + 1 := ⟨m - 1, by omega⟩
    unfold Gd.jumpO
    by_cases h1 : g.go t d = -1
    · rw [if_pos h1, if_pos h1]
    · have hf := (go_from h1).1
      have hr := rank_lt ok h1
      have h2 := hn hf
      have h3 := hm hf
      rw [if_neg h1, if_neg h1]
      split
      · rfl
      · split
        · rfl
        · exact ih m _ (fun _ => by omega) (fun _ => by omega) (by omega) (by omega)
theorem jump_out {t d goal : Int} (h : ¬ (0 ≤ d ∧ d < 8) ∨ g.fre t = false) : g.jump t d goal = -1 := by
  have hg : g.go t d = -1 := by
    by_cases h1 : g.go t d = -1
    · exact h1
    · have := go_from h1
      rcases h with h | h
      · exact absurd ⟨this.2.1, this.2.2⟩ h
      · rw [h] at this; exact absurd this.1 (by simp)
  unfold Gd.jump
  split
  · unfold Gd.jumpE; rw [if_pos hg]
  · unfold Gd.jumpO; rw [if_pos hg]

/-! the reference's way -/
def Gd.ray (g : Gd) (d : Int) : Nat → Int → List Int
  | 0, _ => []
  | n + 1, t => if g.go t d = -1 then [] else g.go t d :: g.ray d n (g.go t d)
def Gd.sideR (g : Gd) (a b : Int) (d : Nat) : Bool :=
  (g.is (b % g.w + dyN d) (b / g.w + dxN d) && !g.is (a % g.w + dyN d) (a / g.w + dxN d)) || (g.is (b % g.w - dyN d) (b / g.w - dxN d) && !g.is (a % g.w - dyN d) (a / g.w - dxN d))
def Gd.strL (g : Gd) (d : Nat) (goal : Int) : List Int → Int → Int
  | [], _ => -1
  | b :: l, a => if b = goal then b else if g.sideR a b d = true then b else g.strL d goal l b
theorem sideR_eq {a b : Int} {d : Nat} (ha : g.fre a = true) (hb : g.fre b = true) (h8 : d < 8) (he : d % 2 = 0) :
    (g.beside a b (turn d (-2)) || g.beside a b (turn d 2)) = g.sideR a b d := by
  have key : ∀ s : Nat, s < 8 → s % 2 = 0 → g.beside a b s = (g.is (b % g.w + dxN s) (b / g.w + dyN s) && !g.is (a % g.w + dxN s) (a / g.w + dyN s)) := by
    intro s hs hse
    unfold Gd.beside
    rw [go_even ha hs hse, go_even hb hs hse]
    have h1 := to_is g b s
    have h2 := to_is g a s
    rw [Bool.eq_iff_iff]
    simp only [Bool.and_eq_true, decide_eq_true_eq, Bool.not_eq_true']
    rw [← Bool.not_eq_true, ← h1, ← h2]
    simp
  have hd : d = 0 ∨ d = 2 ∨ d = 4 ∨ d = 6 := by omega
  unfold Gd.sideR
  rcases hd with rfl | rfl | rfl | rfl
  · have k1 := key 6 (by omega) (by omega)
    have k2 := key 2 (by omega) (by omega)
    simp only [turn, dxN, dyN, Int.sub_zero, Int.add_zero] at k1 k2 ⊢
    simp only [show ((0 : Nat) : Int) + -2 + 8 = 6 by omega, show ((0 : Nat) : Int) + 2 + 8 = 10 by omega, show (6 : Int) % 8 = ((6 : Nat) : Int) by omega, show (10 : Int) % 8 = ((2 : Nat) : Int) by omega, k1, k2]
    rw [Bool.or_comm]; rfl
  · have k1 := key 0 (by omega) (by omega)
    have k2 := key 4 (by omega) (by omega)
    simp only [turn, dxN, dyN, Int.sub_zero, Int.add_zero] at k1 k2 ⊢
    simp only [show ((2 : Nat) : Int) + -2 + 8 = 8 by omega, show ((2 : Nat) : Int) + 2 + 8 = 12 by omega, show (8 : Int) % 8 = ((0 : Nat) : Int) by omega, show (12 : Int) % 8 = ((4 : Nat) : Int) by omega, k1, k2]
    rfl
  · have k1 := key 2 (by omega) (by omega)
    have k2 := key 6 (by omega) (by omega)
    simp only [turn, dxN, dyN, Int.sub_zero, Int.add_zero] at k1 k2 ⊢
    simp only [show ((4 : Nat) : Int) + -2 + 8 = 10 by omega, show ((4 : Nat) : Int) + 2 + 8 = 14 by omega, show (10 : Int) % 8 = ((2 : Nat) : Int) by omega, show (14 : Int) % 8 = ((6 : Nat) : Int) by omega, k1, k2]
    rw [Bool.or_comm]; rfl
  · have k1 := key 4 (by omega) (by omega)
    have k2 := key 0 (by omega) (by omega)
    simp only [turn, dxN, dyN, Int.sub_zero, Int.add_zero] at k1 k2 ⊢
    simp only [show ((6 : Nat) : Int) + -2 + 8 = 12 by omega, show ((6 : Nat) : Int) + 2 + 8 = 16 by omega, show (12 : Int) % 8 = ((4 : Nat) : Int) by omega, show (16 : Int) % 8 = ((0 : Nat) : Int) by omega, k1, k2]
    rfl
theorem strL_eq {d : Nat} {goal : Int} (h8 : d < 8) (he : d % 2 = 0) : ∀ (n : Nat) (t : Int), g.strL d goal (g.ray d n t) t = g.jumpE d goal n t := by
  intro n
  induction n with
  | zero => intro t; rfl
  | succ n ih =>
    intro t
    unfold Gd.ray Gd.jumpE
    by_cases h1 : g.go t d = -1
    · rw [if_pos h1, if_pos h1]; rfl
    · rw [if_neg h1, if_neg h1]
      unfold Gd.strL
      rw [sideR_eq (go_from h1).1 (go_fre h1) h8 he, ih]
def Gd.diaL (g : Gd) (d : Nat) (goal : Int) : List Int → Int
  | [] => -1
  | b :: l => if b = goal ∨ 0 ≤ g.strL (d - 1) goal (g.ray (d - 1 : Nat) 40 b) b ∨ 0 ≤ g.strL ((d + 1) % 8) goal (g.ray ((d + 1) % 8 : Nat) 40 b) b then b else g.diaL d goal l
theorem jumpE_ge (d goal : Int) : ∀ (n : Nat) (t : Int), g.jumpE d goal n t ≠ -1 ↔ 0 ≤ g.jumpE d goal n t := by
  intro n
  induction n with
  | zero => intro t; simp [Gd.jumpE]
  | succ n ih =>
    intro t
    unfold Gd.jumpE
    by_cases h1 : g.go t d = -1
    · simp [h1]
    · have := go_nonneg h1
      rw [if_neg h1]
      split
      · omega
      · split
        · omega
        · exact ih _
theorem jumpO_ge (d goal : Int) : ∀ (n : Nat) (t : Int), g.jumpO d goal n t ≠ -1 ↔ 0 ≤ g.jumpO d goal n t := by
  intro n
  induction n with
  | zero => intro t; simp [Gd.jumpO]
  | succ n ih =>
    intro t
    unfold Gd.jumpO
    by_cases h1 : g.go t d = -1
    · simp [h1]
    · have := go_nonneg h1
      rw [if_neg h1]
      split
      · omega
      · split
        · omega
        · exact ih _
theorem jump_ge (t d goal : Int) : g.jump t d goal ≠ -1 ↔ 0 ≤ g.jump t d goal := by
  unfold Gd.jump
  split
  · exact jumpE_ge _ _ _ _
  · exact jumpO_ge _ _ _ _
theorem diaL_eq (ok : GdOk g) {d : Nat} {goal : Int} (h8 : d < 8) (ho : d % 2 = 1) : ∀ (n : Nat) (t : Int), g.diaL d goal (g.ray d n t) = g.jumpO d goal n t := by
  intro n
  induction n with
  | zero => intro t; rfl
  | succ n ih =>
    intro t
    unfold Gd.ray Gd.jumpO
    by_cases h1 : g.go t d = -1
    · rw [if_pos h1, if_pos h1]; rfl
    · rw [if_neg h1, if_neg h1]
      unfold Gd.diaL
      have hf := go_fre h1
      rw [strL_eq (by omega) (by omega), strL_eq (by omega) (by omega), ih]
      have e1 : turn (d : Int) (-1) = ((d - 1 : Nat) : Int) := by unfold turn; omega
      have e2 : turn (d : Int) 1 = (((d + 1) % 8 : Nat) : Int) := by unfold turn; omega
      rw [e1, e2]
      have r1 := rank_le ok ((d - 1 : Nat) : Int) hf
      have r2 := rank_le ok (((d + 1) % 8 : Nat) : Int) hf
      rw [jumpE_mono ok _ goal 40 34 _ (fun _ => by omega) (fun _ => by omega) (by omega) (by omega), jumpE_mono ok _ goal 40 34 _ (fun _ => by omega) (fun _ => by omega) (by omega) (by omega)]
      have g1 := jumpE_ge (g := g) ((d - 1 : Nat) : Int) goal 34 (g.go t d)
      have g2 := jumpE_ge (g := g) (((d + 1) % 8 : Nat) : Int) goal 34 (g.go t d)
      by_cases h2 : g.go t d = goal
      · rw [if_pos h2, if_pos (.inl h2)]
      · rw [if_neg h2]
        by_cases h3 : g.jumpE ((d - 1 : Nat) : Int) goal 34 (g.go t d) ≠ -1 ∨ g.jumpE (((d + 1) % 8 : Nat) : Int) goal 34 (g.go t d) ≠ -1
        · rw [if_pos h3, if_pos (.inr (h3.imp g1.1 g2.1))]
        · rw [if_neg h3, if_neg]
          rintro (h4 | h4 | h4)
          · exact h2 h4
          · exact h3 (.inl (g1.2 h4))
          · exact h3 (.inr (g2.2 h4))
/-- the reference's jump is the jump -/
def Gd.jumpR (g : Gd) (t d goal : Int) : Int :=
  if g.fre t = true ∧ 0 ≤ d ∧ d < 8 then (if d % 2 = 0 then g.strL d.toNat goal (g.ray d 40 t) t else g.diaL d.toNat goal (g.ray d 40 t)) else -1
theorem jumpR_eq (ok : GdOk g) (t d goal : Int) : g.jumpR t d goal = g.jump t d goal := by
  unfold Gd.jumpR
  by_cases h : g.fre t = true ∧ 0 ≤ d ∧ d < 8
  · rw [if_pos h]
    obtain ⟨hf, h0, h8⟩ := h
    obtain ⟨d, rfl⟩ := Int.eq_ofNat_of_zero_le h0
    rw [Int.toNat_natCast]
    unfold Gd.jump
    have r := rank_le ok (d : Int) hf
    split
    · rw [strL_eq (by omega) (by omega)]
      exact jumpE_mono ok _ _ _ _ _ (fun _ => by omega) (fun _ => by omega) (by omega) (by omega)
    · rw [diaL_eq ok (by omega) (by omega)]
      exact jumpO_mono ok _ _ _ _ _ (fun _ => by omega) (fun _ => by omega) (by omega) (by omega)
  · rw [if_neg h, jump_out]
    by_cases hf : g.fre t = true
    · left; exact fun h2 => h ⟨hf, h2⟩
    · right; simpa using hf
/-- a jump that ends: its first step either ends it, or the jump goes on from there to the same end -/
theorem jump_step (ok : GdOk g) {t d goal : Int} (h : g.jump t d goal ≠ -1) :
    g.go t d ≠ -1 ∧ (g.go t d ≠ g.jump t d goal → g.go t d ≠ goal ∧ g.jump (g.go t d) d goal = g.jump t d goal) := by
  have hg : g.go t d ≠ -1 := by
    intro e
    apply h
    unfold Gd.jump
    split
    · unfold Gd.jumpE; rw [if_pos e]
    · unfold Gd.jumpO; rw [if_pos e]
  refine ⟨hg, fun hne => ?_⟩
  have hf := go_fre hg
  have hf0 := (go_from hg).1
  have r := rank_lt ok hg
  have r1 := rank_le ok d hf0
  have r2 := rank_le ok d hf
  unfold Gd.jump at hne ⊢
  by_cases he : d % 2 = 0
  · simp only [if_pos he] at hne ⊢
    have e1 : g.jumpE d goal 34 t = _ := Gd.jumpE.eq_2 g d goal t 33
    rw [e1, if_neg hg] at hne ⊢
    by_cases h2 : g.go t d = goal
    · rw [if_pos h2] at hne; exact absurd rfl hne
    · rw [if_neg h2] at hne ⊢
      refine ⟨h2, ?_⟩
      split
      · rename_i h3; rw [if_pos h3] at hne; exact absurd rfl hne
      · exact jumpE_mono ok _ _ _ _ _ (fun _ => by omega) (fun _ => by omega) (by omega) (by omega)
  · simp only [if_neg he] at hne ⊢
    have e1 : g.jumpO d goal 34 t = _ := Gd.jumpO.eq_2 g d goal t 33
    rw [e1, if_neg hg] at hne ⊢
    by_cases h2 : g.go t d = goal
    · rw [if_pos h2] at hne; exact absurd rfl hne
    · rw [if_neg h2] at hne ⊢
      refine ⟨h2, ?_⟩
      split
      · rename_i h3; rw [if_pos h3] at hne; exact absurd rfl hne
      · exact jumpO_mono ok _ _ _ _ _ (fun _ => by omega) (fun _ => by omega) (by omega) (by omega)
end
end Go.Proofs.YtmabanabdoalaaaDoor
