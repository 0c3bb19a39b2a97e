/- Chapter 7: the journal beneath a registry. -/
import Derived.Test.YtolojkfpokmdkaaRRRegE
namespace Go.Proofs.YtolojkfpokmdkaaRR.Reg
open Go.RowKit Go.Proofs.YtolojkfpokmdkaaRR.Hp Go.Proofs.YtolojkfpokmdkaaRR.By Go.Proofs.YtolojkfpokmdkaaRR.Disk Go.Proofs.YtolojkfpokmdkaaRR.Word Go.Proofs.YtolojkfpokmdkaaRR.WordP Go.Proofs.YtolojkfpokmdkaaRR.Log Go.Proofs.YtolojkfpokmdkaaRR.Slot Go.Proofs.YtolojkfpokmdkaaRR.Jour
set_option linter.unusedVariables false
set_option linter.unusedSimpArgs false
/-- an Append, where nothing fails -/
def Jou2 (w0 w : World) (j d : Nat) (ρ : Nat → Nat) (gen : Int) (n : Nat) (bs : List Int) (ws : List (List Int)) (x : RSt) (e : Ending) (w' : World) : Prop :=
  e = .returned (.int .i64 0) ∧ ∃ ρ' s' f', JL w0 w' j d ρ' s' gen n false ∧ DReg s' f' gen bs ws x ∧ Chg (fun i => Own ρ i ∨ i = j) w w' ∧ ∀ i, i < w.heap.size → ρ i = 0 → ρ' i = 0
theorem app_calm2 {s : DSt} {f : Nat → List Int} {gen : Int} {bs : List Int} {ws : List (List Int)} {x : RSt} (h : DReg s f gen bs ws x) (y : Rec) (hy : y.ok) (hw : ws.length < 64) :
    appE s ws.length (secL gen ws.length y.bytes) = 0 ∧ DReg (appS s ws.length (secL gen ws.length y.bytes)) (fun k => if k = ws.length then secL gen ws.length y.bytes else f k) gen bs (ws ++ [y.bytes]) (x.app y) := by
  have hl := (Rec.len hy).1
  have hsl := secL_len gen (ws.length : Int) y.bytes (by omega)
  have hs := firm_says h.firm.1 h.calm
  obtain ⟨a1, a2⟩ := says_app hs ws.length (by omega) (secL gen ws.length y.bytes) hsl
  have a3 := app_firmly hs ws.length (by omega) (secL gen ws.length y.bytes) hsl
  refine ⟨a1, ⟨a3, fun k => ?_⟩, a2.1, two_congr h.two (fun k k1 k2 => if_neg (by omega)), log_app h.log y.bytes (by omega) hw, h.says.snoc hy⟩
  show (if k = ws.length then secL gen ws.length y.bytes else f k).length = 64
  by_cases ck : k = ws.length
  · rw [if_pos ck]; exact hsl
  · rw [if_neg ck]; exact h.firm.2 k
theorem rebase2 {w0 w : World} {j d : Nat} {ρ : Nat → Nat} {s : DSt} {f : Nat → List Int} {gen : Int} {bs : List Int} {ws : List (List Int)} {x : RSt} (hJ : JL w0 w j d ρ s gen ws.length false) (h : DReg s f gen bs ws x) (hg : gen < 100000) (A : Option Addr) (c : Nat) (hr : Rd w .u8 A (baseB x)) (ho : Off A (Own ρ)) (hcap : 160 ≤ c) (hb : Bytes (baseB x)) :
    Calls Try.prog 38 #[.pointer (some ⟨j, 0, none⟩), .slice A 160 c] w (Jou2 w0 w j d ρ (gen + 1) 0 (baseB x) [] x) := by
  have hl : (baseB x).length = 160 := base_len x
  have g0 := h.two.1
  have hj := jreb_any hJ h.firm.1.1 A c (baseB x) g0 (by omega) (by omega) hr (fun _ => ho) (by omega) hb
  rw [hl] at hj
  refine hj.mono ?_
  rintro e w' ⟨E, s', rfl, hS, ρ', hJ', hC, hz⟩
  obtain ⟨rfl, hs', _⟩ := save_calm (firm_says h.firm.1 h.calm) (by omega) hS
  rw [if_pos rfl, if_pos rfl, if_pos rfl] at hJ'
  have hf := (saves_firm h.firm.1 h.firm.2 (by omega) hS).1 rfl
  exact ⟨rfl, ρ', s', _, hJ', ⟨⟨hf, lenF_saved h.firm.2 _ _⟩, hs'.1, two_next h.two (by omega) (by omega), log_next g0 h.log (fun k hk => saved_low f (gen + 1) (baseB x) k hk), Holds.base h.says.canon⟩, hC, hz⟩
theorem app_err (s : DSt) (n : Nat) (S : List Int) (hn : n < 64) (h : s.n = 192) (hS : S.length = 64) : appE s n S = 0 ∨ appE s n S = 6 ∨ appE s n S = 9 := by
  unfold appE
  split
  · exact work_err _
  · rw [hS]; exact wrE_err _ _ (by omega) (by omega)
end Go.Proofs.YtolojkfpokmdkaaRR.Reg
