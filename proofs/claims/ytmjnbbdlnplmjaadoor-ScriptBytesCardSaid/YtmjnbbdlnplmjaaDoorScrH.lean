/- Chapter 25: the document's Same, of the same steps. -/
import Derived.Test.YtmjnbbdlnplmjaaDoorScrG
import Derived.Laws.BytesArg
import Derived.BigQuiet
import Derived.Deep.QuietTactic
namespace Go.Proofs.YtmjnbbdlnplmjaaDoor.Scr
open Go.RowKit
open Hp (Chg Blk NoB blt Rd)
set_option linter.unusedVariables false
set_option linter.unusedSimpArgs false
theorem conv_rd {w : World} {A : Option Addr} {l : List Int} (c : Nat) (h : Rd w .u8 A l) : (convert 32 9 (.slice A l.length c)).run Tryd.prog w = .ok (.string (strOfNums l)) w := by
  cases A with
  | none =>
    have h0 : l.length = 0 := by
      rcases Nat.eq_zero_or_pos l.length with h0 | h0
      · exact h0
      · obtain ⟨ad, e, _⟩ := h.2 h0; cases e
    have : l = [] := List.eq_nil_of_length_eq_zero h0
    subst this
    exact run_convert_bytes_nil w 32 5 Tryd.underlying32 Tryd.underlying5 0 c 9 Tryd.underlying9
  | some ad =>
    have hl : (loadCells ad l.length).run Tryd.prog w = .ok (l.map (Value.int .u8)).toArray w := by
      have := run_loadCells_list (P := Tryd.prog) w ad (l.map (Value.int .u8)) (fun j v hj => by
        have hjl : j < l.length := by
          rcases Nat.lt_or_ge j l.length with h | h
          · exact h
          · simp [List.getElem?_eq_none (show (l.map (Value.int .u8)).length ≤ j by simpa using h)] at hj
        obtain ⟨ad', e, hcell⟩ := h.at_ j hjl
        obtain rfl := Option.some.inj e
        rw [hcell]
        simp [List.getElem?_eq_getElem hjl] at hj
        subst hj
        simp [List.getD, List.getElem?_eq_getElem hjl])
      simpa using this
    rw [run_convert_bytes_string w 32 9 5 _ l.length c Tryd.underlying32 Tryd.underlying5 Tryd.underlying9, run_bytesToString w _ l.length c l hl, foldl_push_bytes]
    simp [strOfNums, ByteArray.empty, ByteArray.emptyWithCapacity]
    rfl
def MRel (l : List St) (w : World) (i : Value) (wr : World) : Prop := ∃ k : Nat, k ≤ l.length ∧ i = .int .i64 k ∧ Chg NoB w wr
set_option maxRecDepth 100000 in
set_option maxHeartbeats 4000000 in
theorem same_any (l : List St) (A1 A2 : Option Addr) (c1 c2 : Nat) (w : World) (h1 : SIn w A1 l) (h2 : SIn w A2 l) (hn : l.length ≤ 100000) :
    Calls Tryd.prog 11 #[.slice A1 l.length c1, .slice A2 l.length c2] w fun e w' => e = .returned (.bool true) ∧ Chg NoB w w' := by
  go_enter Tryd.func11, Tryd.ntmps11
  go_wp2_with fail
  go_loopw [5] (fun i wr => MRel l w i wr) (fun i wr => l.length - (intOf i).toNat)
  case atStart => exact ⟨0, by omega, rfl, Chg.refl _ _⟩
  case round =>
    obtain ⟨k, hk, rfl, hC⟩ := hrel
    by_cases hlt : k < l.length
    · obtain ⟨a1, rfl, hst1⟩ := (h1.chg hC) k l[k] (List.getElem?_eq_getElem hlt)
      obtain ⟨a2, rfl, hst2⟩ := (h2.chg hC) k l[k] (List.getElem?_eq_getElem hlt)
      generalize l[k] = s at *
      obtain ⟨B1, d1, hcells1, hRd1⟩ := hst1
      obtain ⟨B2, d2, hcells2, hRd2⟩ := hst2
      obtain ⟨x0, x1, x2, x3, x4, x5, x6, x7, x8, x9, x10⟩ := step_cells hcells1
      obtain ⟨y0, y1, y2, y3, y4, y5, y6, y7, y8, y9, y10⟩ := step_cells hcells2
      have g1 := fun n => conv_rd d1 (hRd1.chg ((Chg.refl NoB wr).drewN n) (fun _ _ _ x => x))
      have g2 := fun n => conv_rd d2 (hRd2.chg ((Chg.refl NoB wr).drewN n) (fun _ _ _ x => x))
      clear hcells1 hcells2 hRd1 hRd2 h1 h2
      have i1 : (k : Int) < (l.length : Int) := by omega
      go_wp2_with fail
      simp only [List.append]
      go_quiet (fail)
      go_wp2_with fail
      exact ⟨⟨k + 1, by omega, by push_cast; rfl, hC.drewN _⟩, by simp only [intOf]; omega⟩
    · have hkk : k = l.length := by omega
      subst hkk
      have i1 : ¬ ((l.length : Int) < (l.length : Int)) := by omega
      go_wp2_with fail
      go_ret
      exact ⟨rfl, hC⟩
end Go.Proofs.YtmjnbbdlnplmjaaDoor.Scr
