/- Bytes: copies. -/
import Derived.Test.YtmonkoclbcahiaaHpC
namespace Go.Proofs.Ytmonkoclbcahiaa.By
open Go.RowKit Go.Proofs.Ytmonkoclbcahiaa.Hp
set_option linter.unusedVariables false
set_option linter.unusedSimpArgs false
theorem one_u8 (l : List Int) : ∀ v ∈ l.map (Value.int .u8), v.oneCell' = true := by
  intro v hv
  obtain ⟨x, _, rfl⟩ := List.mem_map.mp hv
  rfl
theorem rd_src {w : World} {A : Option Addr} {l : List Int} (h : Rd w .u8 A l) : 0 < (l.map (Value.int .u8)).length → ∃ ad, A = some ad ∧ ∀ j v, (l.map (Value.int .u8))[j]? = some v → w.cell? (ad.add j) = some v := by
  intro hl
  rw [List.length_map] at hl
  obtain ⟨ad, e, hc⟩ := h.2 hl
  refine ⟨ad, e, fun j v hv => ?_⟩
  have hj : j < l.length := by
    have := (List.getElem?_eq_some_iff.1 hv).1
    rwa [List.length_map] at this
  rw [hc j hj]
  simp [hj] at hv
  simp [hj, hv]
theorem info8 : (Try.prog.info? 5).map (fun i => (i.zero, i.size, i.bytes)) = some (some (.int .u8 0), 1, 1) := by kernel_rfl
theorem sz8 : (Try.prog.info? 5).map (·.size) = some 1 := by kernel_rfl
def ClonePost (l : List Int) (w : World) (e : Ending) (w' : World) : Prop :=
  ∃ v, e = .returned v ∧ w'.ownsRow w.heap.size 5 1 v l.length (l.map (Value.int .u8)) ∧ Chg NoB w w'
theorem clone_nil (w : World) : Calls Try.prog 40 #[.slice none 0 0] w fun e w' => e = .returned (.slice none 0 0) ∧ w = w' := by
  have hq := fun (w : World) => Lib.run_eql_slice_nil (P := Try.prog) w 31 5 none 0 0 0 0 Try.underlying31
  go_enter Try.func40, Try.ntmps40
  go_wp2
  go_ret
  exact ⟨rfl, rfl⟩
set_option maxHeartbeats 2000000 in
theorem clone_some (ad : Addr) (l : List Int) (c : Nat) (w : World) (h : Rd w .u8 (some ad) l) : Calls Try.prog 40 #[.slice (some ad) l.length c] w (ClonePost l w) := by
  have hq := fun (w : World) => Lib.run_eql_slice_nil (P := Try.prog) w 31 5 (some ad) l.length c 0 0 Try.underlying31
  have hlen := h.1
  have hown : (w.alloc (.cells #[] 5)).ownsRow w.heap.size 5 1 (.slice (some ⟨w.heap.size, 0, none⟩) 0 0) 0 [] := World.ownsRow_made w _ 0 (Nat.le_refl _) (by unfold maxLen; omega) rfl
  have hC : Chg NoB w (w.alloc (.cells #[] 5)) := (Chg.refl _ _).alloc _
  have h' : Rd (w.alloc (.cells #[] 5)) .u8 (some ad) l := h.chg hC (fun _ _ _ x => x)
  have hll : (l.map (Value.int .u8)).length = l.length := List.length_map ..
  have hx : ∀ a : Act, a.eval (.tmp 6) = .slice (some ad) l.length c → a.eval (.tmp 6) = .slice (some ad) (l.map (Value.int .u8)).length c := fun a e => by rw [hll]; exact e
  have HX := Lib.hid hx
  clear hx
  go_enter Try.func40, Try.ntmps40
  go_wp2_with (first | (at_builtin; refine append_src (w0 := w) (S := NoB) rfl (.tmp 5) (.tmp 6) 31 5 rfl (.int .u8 0) 1 Try.underlying31 info8 rfl (.slice (some ⟨w.heap.size, 0, none⟩) 0 0) 0 [] rfl hC hown (l.map (Value.int .u8)) (some ad) c (HX.out _ rfl) (fun e => by cases e) (rd_src h') (one_u8 l) (by omega) (by omega) ?_; intro v' w1 hown' hC'))
  rw [List.nil_append, Nat.zero_add, hll] at hown'
  go_ret
  exact ⟨_, rfl, hown', hC'⟩
end Go.Proofs.Ytmonkoclbcahiaa.By
