/- THE LAW HandlesOnce: for every list of calls the call returns true, and the list reads behind it as before. Conditions: those of the given card (the ten listed sentinels, tied to the program's text). -/
import Derived.Test.YteafeejdekihpaaDoorPlH
import Derived.Test.YteafeejdekihpaaDoorLaws
import Derived.Deep.Strs
namespace Go.Proofs.YteafeejdekihpaaDoor.HandlesOnce
open Go.ChangeShapes Go.WideShapes Go.ChangeAt Go.RowKit Go.Deep

theorem cellsHandle : Tryd.prog.cellsOf 42 = 2 := by kernel_rfl
theorem cellsOp : Tryd.prog.cellsOf 44 = 4 := by kernel_rfl
theorem list2 {α : Type} {l : List α} (h : l.length = 2) : ∃ a b, l = [a, b] := by
  rcases l with _ | ⟨a, _ | ⟨b, _ | ⟨c, l⟩⟩⟩
  · cases h
  · cases h
  · exact ⟨a, b, rfl⟩
  · simp at h
theorem list4 {α : Type} {l : List α} (h : l.length = 4) : ∃ a b c d, l = [a, b, c, d] := by
  rcases l with _ | ⟨a, _ | ⟨b, _ | ⟨c, _ | ⟨d, _ | ⟨e, l⟩⟩⟩⟩⟩ <;> simp at h
  exact ⟨a, b, c, d, rfl⟩
theorem decOp {H : Type} {enc : TypeId × Value → H} {W : World} {held : Bool} (n : Nat) (cs : List Value) (x : DataW H × List MemPlace)
    (h : DataW.trod enc Tryd.prog W 0 (fun _ => true) held n 44 cs = some x) : ∃ a : Int × Int × Int × Int, cs = encO a ∧ True := by
  obtain ⟨y0, y1, y2, m, _, hl, h0, h1, h2⟩ := trod_struct3 Tryd.underlying44 h
  rw [cellsOp] at hl
  have c3 : Tryd.prog.cellsOf 3 = 1 := by kernel_rfl
  obtain ⟨u0, u1, u2, u3, rfl⟩ := list4 hl
  rw [c3] at h0 h1
  rw [cellsHandle] at h2
  obtain ⟨a, ha, _⟩ := decInt Tryd.underlying3 h0
  obtain ⟨b, hb, _⟩ := decInt Tryd.underlying3 h1
  have ha' : u0 = .int .i64 a := (List.cons.inj (show [u0] = _ from ha)).1
  have hb' : u1 = .int .i64 b := (List.cons.inj (show [u1] = _ from hb)).1
  subst ha'; subst hb'
  obtain ⟨z0, z1, m', _, hl2, g0, g1⟩ := trod_struct2 Tryd.underlying42 h2
  rw [c3] at g0 g1
  obtain ⟨c, hc, _⟩ := decInt Tryd.underlying3 g0
  obtain ⟨d, hd, _⟩ := decInt Tryd.underlying3 g1
  have hc' : u2 = .int .i64 c := (List.cons.inj (show [u2] = _ from hc)).1
  have hd' : u3 = .int .i64 d := (List.cons.inj (show [u3] = _ from hd)).1
  subst hc'; subst hd'
  exact ⟨(a, b, c, d), rfl, trivial⟩

theorem door_met (os : Os) (args : Array Value) : laidMetH Tryd.prog Rows.handlesOnceRow.laid ((World.doorLaid Tryd.prog 400 os).forCall (fun _ _ => 0) ⟨#[], args, []⟩).memory :=
  laidMetH_of_parts3 (fuel := 8) (laidMet_of_run' 8 (by kernel_rfl) (by kernel_rfl)) (by kernel_rfl) (by kernel_rfl)

set_option maxRecDepth 100000 in
theorem lifted (os : Os) (started : os.Started) (H : Type) (enc : TypeId × Value → H) :
    ReturnsInHanded {} Tryd.checked os 4 .any (fun w args => (Rows.handlesOnceSpec.pre enc Tryd.prog Tryd.f4 [] false w args ∧ laidMetH Tryd.prog Rows.handlesOnceRow.laid w) ∧ sizedMet enc Tryd.prog Tryd.f4 (OpenSpec.ofChange Rows.handlesOnceSpec) false w args)
      (Rows.handlesOnceSpec.post enc Tryd.prog Tryd.f4 false true false false) := by
  refine returnsInHanded_of_change_and (C := Tryd.checked) (X := fun w _ => laidMetH Tryd.prog Rows.handlesOnceRow.laid w) (fun _ _ _ hh h => h.of_heap hh) own started (by kernel_rfl) Tryd.func4
    (ChangeSpec.witness_shaped (enc := enc) (C := Tryd.checked) (os := os) (X := fun w _ => laidMetH Tryd.prog Rows.handlesOnceRow.laid w) false (World.doorLaid Tryd.prog 400 os) #[.slice none 0 0] 8 rfl (World.shaped_of_RefB (by kernel_rfl) (by kernel_rfl)) (by kernel_rfl) (by kernel_rfl) (by kernel_rfl) (door_met os _)) ?_
  intro W base args ds gs before hval0 hW _ _ hL _
  have hval : ∀ (j : Nat) t v, Tryd.f4.params[j]? = some t → args[j]? = some v → Value.okWide Tryd.prog W .any base t v := hval0
  have hW' := hW
  obtain ⟨p, q, hA0, hV, rfl, hfz, hnd⟩ := hW
  have hA : DataW.TrodAll enc Tryd.prog W 0 (fun _ => true) true Tryd.f4.params.toList args.toList ds p := hA0
  rw [Tryd.params4] at hA hval
  obtain ⟨v0, vs0, d0, ds0, p0, q0, hargs, rfl, rfl, h0, r0⟩ := trodAll_cons hA
  obtain ⟨rfl, rfl, rfl⟩ := trodAll_nil r0
  obtain rfl : args = #[v0] := by cases args; simp_all
  obtain ⟨rfl, rfl⟩ := trodVars_none hV
  have k0 := h0
  have lt0 : ∀ x ∈ p0, x.block < W.heap.size := by obtain ⟨m, hm⟩ := k0; exact DataW.trod_lt m _ _ _ hm
  obtain ⟨xs, hx, _⟩ := openSl encO (fun _ => True) Tryd.underlying36 cellsOp (by decide) (fun n cs x h => decOp n cs x h) (okWide_slice Tryd.underlying36 (hval 0 36 v0 rfl rfl)) h0
  obtain ⟨er, hE⟩ := errs_of_laid hL
  clear hA0 hval0
  refine (once_any hx hE).mono fun e W' ⟨he, bel⟩ => ?_
  subst he
  simp only [List.append_nil] at hW'
  exact ⟨_, rfl, _, _, _, [], _, [], hW', trodAll_mk1 (shut_bool Tryd.underlying4 _), (trodAll_cons_mk (Below.trod laidOut (by kernel_rfl) (of_decide_eq_true (by kernel_rfl)) k0 bel lt0) trodAll_mk0), rfl, bel.frame _, fun h => by cases h⟩
theorem said : Rows.HandlesOnceSaid :=
  OpenClaim.holds_of_wide 4 Tryd.f4 rfl rfl rfl rfl rfl rfl rfl ⟨rfl, rfl, rfl, rfl, rfl⟩ rfl rfl rfl rfl rfl (by kernel_rfl) Tryd.func4 (by kernel_rfl) (of_decide_eq_true (by kernel_rfl))
    (by unfold Func.isWrapper; first | (rw [if_pos (by decide +kernel)]; kernel_rfl) | (rw [if_neg (by decide +kernel)]; exact ⟨rfl, rfl⟩)) (fun os started H enc _ => lifted os started H enc)

theorem handlesOnce_card : Rows.HandlesOnceCardSaid :=
  Claim7.holds_tied_plain_at .later [] _ _ _ _ said (fun _ h => by cases h) (by kernel_rfl) (fun _ h => by cases h) handlesOnce_row_tie rfl ⟨rfl, rfl⟩ (by kernel_rfl) rfl
    (fun f fn hf hfn => by
      obtain rfl : f = 4 := Option.some.inj ((show Tryd.prog.funcNamed "paddock/paddocklaw04.HandlesOnce" = some 4 by kernel_rfl).symm.trans hf) |>.symm
      obtain rfl : fn = Tryd.f4 := (Option.some.inj (Tryd.func4.symm.trans hfn)).symm
      exact ⟨by kernel_rfl, fun j t ht => by
        rw [Tryd.params4] at ht
        have h3 : t = 36 := by
          rcases j with _ | j
          · simpa using ht.symm
          · simp at ht
        subst h3
        exact (show Tryd.prog.wantsStandIn 36 = false by kernel_rfl)⟩)
    (by kernel_rfl)
#print axioms handlesOnce_card
end Go.Proofs.YteafeejdekihpaaDoor.HandlesOnce
