/- EntryApart: whatever the input, the law returns true and the input reads as it did. No condition. -/
import Derived.Test.YtkohbmbacdgjaaaRows
import Derived.Test.YtkohbmbacdgjaaaPEntryApartx4
import Derived.Test.YtkohbmbacdgjaaaPureEntryApart
import Derived.WalkKit
import Derived.ProofKit
import Derived.OpenShut
import Derived.ShutString
import Derived.ChangeOld
import Derived.Below
import Derived.SizedLaws
import Derived.Lib.SmallJoins
namespace Go.Proofs.Ytkohbmbacdgjaaa.entryApart
open Go.ChangeShapes Go.WideShapes Go.ChangeAt Go.RowKit Go.Joins
set_option linter.unusedVariables false
theorem own : ownKnob Try.prog.godebug = none := by kernel_rfl
theorem cells23 : Try.prog.cellsOf 23 = 3 := by kernel_rfl
set_option maxRecDepth 100000 in
theorem lifted (os : Os) (started : os.Started) (H : Type) (enc : TypeId × Value → H) :
    ReturnsInHanded {} Try.checked os 5 .any (Rows.entryApartSpec.pre6 enc Try.prog Try.f5 Rows.entryApartRow.domain false) (Rows.entryApartSpec.post enc Try.prog Try.f5 false true false false) := by
  refine returnsInHanded_of_change_sized (C := Try.checked) own started (by kernel_rfl) Try.func5
    (ChangeSpec.witness6 (enc := enc) (C := Try.checked) false ⟨#[], #[.agg #[.int .i64 0, .int .i64 0, .bool false], .agg #[.int .i64 0, .int .i64 0, .bool false]], []⟩ 8 (by kernel_rfl) (by kernel_rfl) (by kernel_rfl) (by kernel_rfl)) ?_
  intro W base args ds gs before hval0 hW hcnd hsz0 _
  have hval : ∀ (j : Nat) t v, Try.f5.params[j]? = some t → args[j]? = some v → Value.okWide Try.prog W .any base t v := hval0
  have hW' := hW
  obtain ⟨p, q, hA0, hV, rfl, hfz, hnd⟩ := hW
  have hA : DataW.TrodAll enc Try.prog W 0 (fun _ => true) true Try.f5.params.toList args.toList ds p := hA0
  rw [Try.params5] at hA hval
  obtain ⟨v0, vs0, d0, ds0, p0, q0, hargs, rfl, rfl, h0, r0⟩ := trodAll_cons hA
  obtain ⟨v1, vs1, d1, ds1, p1, q1, rfl, rfl, rfl, h1, r1⟩ := trodAll_cons r0
  obtain ⟨rfl, rfl, rfl⟩ := trodAll_nil r1
  obtain rfl : args = #[v0, v1] := by cases args; simp_all
  obtain ⟨rfl, rfl⟩ := trodVars_none hV
  obtain ⟨x0, y0, z0, yx0, yy0, yz0, m0, rfl, rfl, rfl, hx0, hy0, hz0⟩ := open_agg3 Try.underlying23 (by kernel_rfl) cells23 (hval 0 23 v0 rfl rfl) h0
  obtain ⟨a0, ex0, rfl, wa0⟩ := DataW.trod_int Try.underlying3 hx0
  obtain ⟨b0, ey0, rfl, wb0⟩ := DataW.trod_int Try.underlying3 hy0
  obtain ⟨c0, ez0, rfl⟩ := DataW.trod_bool Try.underlying4 hz0
  simp at ex0 ey0 ez0
  subst ex0 ey0 ez0
  obtain ⟨x1, y1, z1, yx1, yy1, yz1, m1, rfl, rfl, rfl, hx1, hy1, hz1⟩ := open_agg3 Try.underlying23 (by kernel_rfl) cells23 (hval 1 23 v1 rfl rfl) h1
  obtain ⟨a1, ex1, rfl, wa1⟩ := DataW.trod_int Try.underlying3 hx1
  obtain ⟨b1, ey1, rfl, wb1⟩ := DataW.trod_int Try.underlying3 hy1
  obtain ⟨c1, ez1, rfl⟩ := DataW.trod_bool Try.underlying4 hz1
  simp at ex1 ey1 ez1
  subst ex1 ey1 ez1
  clear hA0 hval0 hsz0
  have structReads : ∀ (W' : World) (sp : Nat → Bool) (a b : Int) (c : Bool) (wa : (Lit.int .i64 a).wf = true) (wb : (Lit.int .i64 b).wf = true), DataW.Trod enc Try.prog W' 0 sp true 23 (.agg #[.int .i64 a, .int .i64 b, .bool c]) (.agg [.lit (.int .i64 a), .lit (.int .i64 b), .lit (.bool c)]) ([] ++ ([] ++ [])) := fun W' sp a b c wa wb =>
    shut_agg3 (y0 := (.lit (.int .i64 a), [])) (y1 := (.lit (.int .i64 b), [])) (y2 := (.lit (.bool c), [])) Try.underlying23 (by kernel_rfl) cells23 ⟨1, by simp [DataW.trod, Try.underlying3, wa]⟩ ⟨1, by simp [DataW.trod, Try.underlying3, wb]⟩ ⟨1, by simp [DataW.trod, Try.underlying4]⟩
  obtain ⟨k, hk⟩ := Pure.EntryApart a0 b0 c0 a1 b1 c1 wa0 wb0 wa1 wb1
  refine (PEntryApart.headlandlaw11_EntryApart.calls k a0 b0 c0 a1 b1 c1 true W hk).mono fun e W' ⟨he, bel⟩ => ?_
  subst he
  exact ⟨_, rfl, _, _, _, [], _, [], hW', trodAll_mk1 (shut_bool Try.underlying4 _), (trodAll_cons_mk (structReads _ _ a0 b0 c0 wa0 wb0) (trodAll_cons_mk (structReads _ _ a1 b1 c1 wa1 wb1) trodAll_mk0)), rfl, bel.frame _, fun h => by cases h⟩
theorem over : Rows.entryApartRow.holds Try.pinned (OpenSpec.ofChange Rows.entryApartSpec) :=
  OpenClaim.holds_of_wide 5 Try.f5 rfl rfl rfl rfl rfl rfl rfl ⟨rfl, rfl, rfl, rfl, rfl⟩ rfl rfl rfl rfl rfl (by kernel_rfl) Try.func5 (by kernel_rfl)
    (of_decide_eq_true (by kernel_rfl)) (by unfold Func.isWrapper; first | (rw [if_pos (by decide +kernel)]; kernel_rfl) | (rw [if_neg (by decide +kernel)]; exact ⟨rfl, rfl⟩))
    (fun os started H enc _ => lifted os started H enc)
theorem proved : Rows.EntryApartSaid := over
end Go.Proofs.Ytkohbmbacdgjaaa.entryApart
namespace Go.Proofs.Ytkohbmbacdgjaaa
theorem entryApart_holds : Rows.EntryApartSaid := entryApart.proved
end Go.Proofs.Ytkohbmbacdgjaaa
