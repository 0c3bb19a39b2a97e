/- Chapter 7: what a registry does where nothing fails; answers. -/
import Derived.Test.YtolojkfpokmdkaaRRRegJ
namespace Go.Proofs.YtolojkfpokmdkaaRR.Reg
open Go.RowKit Go.Proofs.YtolojkfpokmdkaaRR.Hp Go.Proofs.YtolojkfpokmdkaaRR.By Go.Proofs.YtolojkfpokmdkaaRR.Disk Go.Proofs.YtolojkfpokmdkaaRR.Word Go.Proofs.YtolojkfpokmdkaaRR.WordP Go.Proofs.YtolojkfpokmdkaaRR.Log Go.Proofs.YtolojkfpokmdkaaRR.Slot Go.Proofs.YtolojkfpokmdkaaRR.Jour
set_option linter.unusedVariables false
set_option linter.unusedSimpArgs false
def IntsRel (l1 l2 : List Int) (w : World) (i : Value) (wr : World) : Prop := ∃ k : Nat, k ≤ l1.length ∧ i = .int .i64 k ∧ l1.take k = l2.take k ∧ Chg NoB w wr
def IRet (b : Bool) (w : World) (e : Ending) (w' : World) : Prop := e = .returned (.bool b) ∧ Chg NoB w w'
set_option maxHeartbeats 4000000 in
theorem ints_any (A1 A2 : Option Addr) (c1 c2 : Nat) (l1 l2 : List Int) (w : World) (h1 : Rd w .i64 A1 l1) (h2 : Rd w .i64 A2 l2) :
    Calls Try.prog 20 #[.slice A1 l1.length c1, .slice A2 l2.length c2] w (IRet (decide (l1 = l2)) w) := by
  have b1 := h1.1
  have b2 := h2.1
  by_cases hl : l1.length = l2.length
  · have ht : (((l1.length : Nat) : Int) != (l2.length : Int)) = false := by rw [bne_eq_false_iff_eq]; omega
    have HL := Lib.hid hl
    clear hl
    go_enter Try.func20, Try.ntmps20
    go_wp2_with fail
    go_loopw [5] (fun i wr => IntsRel l1 l2 w i wr) (fun i wr => l1.length - (intOf i).toNat)
    case atStart => exact ⟨0, by omega, rfl, by simp, Chg.refl _ _⟩
    case round =>
      obtain ⟨k, hk, rfl, htk, hC⟩ := hrel
      by_cases hlt : k < l1.length
      · obtain ⟨a1, rfl, hc1⟩ := (h1.chg hC (fun _ _ _ x => x)).at_ k hlt
        obtain ⟨a2, rfl, hc2⟩ := (h2.chg hC (fun _ _ _ x => x)).at_ k (by have := HL.out; omega)
        have n1 := take_succ_getD l1 k hlt
        have n2 := take_succ_getD l2 k (by have := HL.out; omega)
        have go1 : l1.getD k 0 = l2.getD k 0 → ∀ wr', Chg NoB w wr' → IntsRel l1 l2 w (.int .i64 ((k : Int) + 1)) wr' := fun e wr' hh => ⟨k + 1, by omega, rfl, by rw [n1, n2, htk, e], hh⟩
        have no1 : l1.getD k 0 ≠ l2.getD k 0 → ∀ wr', Chg NoB w wr' → IRet (decide (l1 = l2)) w (.returned (.bool false)) wr' := by
          intro e wr' hh
          have : ¬ l1 = l2 := fun x => e (by rw [x])
          rw [decide_eq_false this]
          exact ⟨rfl, hh⟩
        have i1 : (k : Int) < (l1.length : Int) := by omega
        have i2 : (k : Int) < (l2.length : Int) := by have := HL.out; omega
        have G := Lib.hid go1
        have N := Lib.hid no1
        clear go1 no1 n1 n2 htk h1 h2
        generalize l1.getD k 0 = x at *
        generalize l2.getD k 0 = y at *
        by_cases e : x = y
        · have g := G.out e
          have hxy : (x != y) = false := by rw [bne_eq_false_iff_eq]; exact e
          have GG := Lib.hid g
          clear e g G N
          go_wp2_with fail
          go_quiet (fail)
          go_wp2_with fail
          go_roundw
          case rel => exact GG.out _ (hC.drewN _)
          case measure => simp [intOf]; omega
        · have g := N.out e
          have hxy : (x != y) = true := by rw [bne_iff_ne]; exact e
          have GG := Lib.hid g
          clear e g G N
          go_wp2_with fail
          go_quiet (fail)
          go_wp2_with fail
          go_ret
          exact GG.out _ (hC.drewN _)
      · obtain rfl : k = l1.length := by omega
        have e : l1 = l2 := by
          rw [List.take_length] at htk
          rw [htk, List.take_of_length_le (by have := HL.out; omega)]
        have F : IRet (decide (l1 = l2)) w (.returned (.bool true)) wr := by rw [decide_eq_true e]; exact ⟨rfl, hC⟩
        have FF := Lib.hid F
        clear e F htk h1 h2
        go_wp2_with fail
        go_ret
        exact FF.out
  · have ht : (((l1.length : Nat) : Int) != (l2.length : Int)) = true := by rw [bne_iff_ne]; omega
    have F : IRet (decide (l1 = l2)) w (.returned (.bool false)) w := by
      rw [decide_eq_false (fun e => hl (by rw [e]))]; exact ⟨rfl, Chg.refl _ _⟩
    have FF := Lib.hid F
    clear hl F
    go_enter Try.func20, Try.ntmps20
    go_wp2_with fail
    go_ret
    exact FF.out
/-- a new disk -/
theorem dreg_new : DReg (DSt.new 192) (fun _ => List.replicate 64 0) 0 [] [] RSt.zero :=
  ⟨⟨⟨rfl, fun _ => rfl, fun _ => rfl⟩, fun _ => List.length_replicate ..⟩, rfl, ⟨Int.le_refl _, fun _ => ⟨rfl, fun _ _ _ => rfl⟩, fun c => absurd c (by decide)⟩, log_new 0, Holds.new⟩
def CalmQ (w0 w : World) (r j bm d : Nat) (ρ : Nat → Nat) (gen : Int) (ws : List (List Int)) (x : RSt) (K : Nat) (y : Rec) (E : Int) (w' : World) : Prop :=
  E = 0 ∧ ∃ ρ' s' f' gen' bs' ws', RegAt w0 w' r j bm d ρ' s' gen' ws'.length (x.app y) (K + 20) ∧ DReg s' f' gen' bs' ws' (x.app y) ∧ gen' ≤ gen + 1 ∧ (ws.length < 64 → ws'.length = ws.length + 1) ∧ ∀ i, i < w.heap.size → ρ i = 0 → ρ' i = 0
theorem adds_calm1 {w0 w : World} {r j bm d : Nat} {ρ : Nat → Nat} {s : DSt} {f : Nat → List Int} {gen : Int} {bs : List Int} {ws : List (List Int)} {x : RSt} {K : Nat} (h : RegAt w0 w r j bm d ρ s gen ws.length x K) (hD : DReg s f gen bs ws x) (hg : gen < 4294967296) (hw : ws.length < 64) (hK : K ≤ 900000) : Adds w r j bm ρ (CalmQ w0 w r j bm d ρ gen ws x K) := by
  intro y hy w1 A c hC hr ho hc
  have hE := app_calm2 hD y hy hw
  refine (add_lt (h.keep hC) hD.firm.1.1 hD.two.1 hg hw y hy hK A c hr ho hc).mono ?_
  rintro e w' ⟨rfl, ⟨ρ', hR, hzz⟩, hC'⟩
  rw [hE.1] at hR ⊢
  rw [if_pos rfl, if_pos rfl] at hR
  refine ⟨0, rfl, ⟨rfl, ρ', _, _, gen, bs, _, ?_, hE.2, by omega, fun _ => by rw [List.length_append]; rfl, fun i hi hz => hzz i (Nat.lt_of_lt_of_le hi hC.size) hz⟩, hC'⟩
  rw [List.length_append, List.length_singleton]
  exact hR
theorem addbad_nil (A : Option Addr) (len c : Nat) (w : World) : Calls Try.prog 9 #[.pointer none, .slice A len c] w fun e w' => e = .returned (.int .i64 1) ∧ Chg NoB w w' := by
  have hC : Chg NoB w (w.alloc (.cells #[.pointer none] 22)) := (Chg.refl _ _).alloc _
  have hB : Blk (w.alloc (.cells #[.pointer none] 22)) w.heap.size #[.pointer none] 22 := bnew w _
  have b0 : (w.alloc (.cells #[.pointer none] 22)).cell? ⟨w.heap.size, 0, none⟩ = some (.pointer none) := by rw [bcell hB]; rfl
  clear hB
  go_enter Try.func9, Try.ntmps9
  go_wp2_with fail
  go_ret
  exact ⟨rfl, hC⟩
/-- two numbers, written in the text -/
theorem two_const (w1 : World) (a b : Int) : Rd (w1.alloc (.cells #[.int .i64 a, .int .i64 b] 3)) .i64 (some ⟨w1.heap.size, 0, none⟩) [a, b] := ⟨by simp, fun _ => ⟨_, rfl, fun k hk => by
  have hk2 : k < 2 := hk
  have hb : Blk (w1.alloc (.cells #[.int .i64 a, .int .i64 b] 3)) w1.heap.size #[.int .i64 a, .int .i64 b] 3 := bnew w1 _
  rw [add0, bcell hb]
  match k, hk2 with
  | 0, _ => rfl
  | 1, _ => rfl⟩⟩
theorem new97 : newL RSt.zero [9, 7] = [9, 7] := rfl
theorem bad97 : ((RSt.zero.app (.bads [9, 7])).app (.state 3 1)).badL = [7, 9] := by decide +kernel
set_option maxRecDepth 100000 in
set_option maxHeartbeats 4000000 in
theorem answers_any (w0 : World) : Calls Try.prog 8 #[] w0 (True1 w0) := by
  go_enter Try.func8, Try.ntmps8
  go_wp2_with fail
  refine (l_new 192 (by omega) (by omega) w0).mono ?_
  rintro e w1 ⟨d, ρ, rfl, h1⟩
  have hop := open_any h1 (firm_says dreg_new.firm.1 dreg_new.calm) dreg_new.two (by decide) dreg_new.log dreg_new.says
  clear h1
  go_wp2_with fail
  refine hop.mono ?_
  rintro e w2 ⟨r, j, bm, rfl, h2, _⟩
  have hA2 : Chg NoB w2 (w2.alloc (.cells #[.int .i64 9, .int .i64 7] 3)) := (Chg.refl _ _).alloc _
  have hab := addbad_any (h2.keep hA2) (adds_calm1 (h2.keep hA2) dreg_new (by decide) (by decide) (by decide)) (some ⟨w2.heap.size, 0, none⟩) 2 [9, 7] (two_const w2 9 7) (fun e => by cases e)
  rw [show ([9, 7] : List Int).length = 2 from rfl] at hab
  clear hop h2 hA2
  go_wp2_with fail
  refine hab.mono ?_
  rintro e w3 ⟨E, rfl, hcase⟩
  have h3 : ∃ wq ρq, CalmQ w0 wq r j bm d ρq 0 [] RSt.zero 2000 (.bads [9, 7]) E w3 := by
    rcases hcase with ⟨h, _⟩ | ⟨_, h, _⟩ | ⟨_, _, h⟩
    · exact absurd h (by decide)
    · rw [new97] at h; cases h
    · rw [new97] at h; exact ⟨_, _, h⟩
  obtain ⟨_, _, rfl, ρ3, s3, f3, g3, bs3, ws3, h3, hD3, hg3, hw3, _⟩ := h3
  have hw3 : ws3.length = 1 := hw3 (by decide)
  have hst := setst_any h3 (adds_calm1 h3 hD3 (by omega) (by omega) (by decide)) 3 1
  clear hab hcase h3
  go_wp2_with fail
  refine hst.mono ?_
  rintro e w4 ⟨E, rfl, hcase⟩
  have h4 : ∃ wq ρq, CalmQ w0 wq r j bm d ρq g3 ws3 (RSt.zero.app (.bads [9, 7])) 2020 (.state 3 1) E w4 := by
    rcases hcase with ⟨h, _⟩ | ⟨_, h, _⟩ | ⟨_, _, h⟩
    · exact absurd (show stOk 3 1 by decide) h
    · exact absurd h (by decide)
    · exact ⟨_, _, h⟩
  obtain ⟨_, _, rfl, ρ4, s4, f4, g4, bs4, ws4, h4, hD4, hg4, _⟩ := h4
  have hop2 := open_any h4.jl.1 (firm_says hD4.firm.1 hD4.calm) hD4.two (by omega) hD4.log hD4.says
  clear hst hcase h4 hD3 hw3
  go_wp2_with fail
  refine hop2.mono ?_
  rintro e w5 ⟨q, j5, bm5, rfl, h5, _⟩
  have hbd := bad_any h5.rm
  have H5 := Lib.hid h5
  clear hop2 h5 hD4
  go_wp2_with fail
  refine hbd.mono ?_
  rintro e w6 ⟨v, rfl, hown, hC6⟩
  rw [bad97] at hown
  obtain ⟨A6, c6, rfl, _, _, hr6, _⟩ := own_rd hown (by decide)
  have hi := ints_any A6 (some ⟨w6.heap.size, 0, none⟩) c6 2 [7, 9] [7, 9] (w6.alloc (.cells #[.int .i64 7, .int .i64 9] 3)) (hr6.chg ((Chg.refl NoB w6).alloc _) (fun _ _ _ x => x)) (two_const w6 7 9)
  rw [decide_eq_true rfl] at hi
  have hC6' : Chg NoB w5 (w6.alloc (.cells #[.int .i64 7, .int .i64 9] 3)) := hC6.alloc _
  clear hbd hr6 hown hC6
  go_wp2_with fail
  refine hi.mono ?_
  rintro e w7 ⟨rfl, hC7⟩
  have h7 := H5.out.keep (hC6'.trans hC7 (fun _ _ x => x))
  have hst := stat_any h7.rm 3 (by decide)
  have est : ((RSt.zero.app (.bads [9, 7])).app (.state 3 1)).st 3 = 1 := rfl
  have est2 : ((RSt.zero.app (.bads [9, 7])).app (.state (3 : Int).toNat (1 : Int).toNat)).st 3 = 1 := rfl
  have fin := Lib.hid h7.jl.1.ch
  rw [est] at hst
  clear hi hC7 hC6' H5 h7
  go_wp2_with fail
  refine hst.mono ?_
  rintro e w8 ⟨rfl, rfl⟩
  clear hst
  go_wp2_with fail
  go_ret
  exact ⟨rfl, fin.out⟩
end Go.Proofs.YtolojkfpokmdkaaRR.Reg
