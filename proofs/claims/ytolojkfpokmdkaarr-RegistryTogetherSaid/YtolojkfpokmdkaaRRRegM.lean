/- Chapter 7, plain: what a crash leaves of a record; lists without repeats. -/
import Derived.Test.YtolojkfpokmdkaaRRRegK
namespace Go.Proofs.YtolojkfpokmdkaaRR.Reg
open Go.RowKit Go.Proofs.YtolojkfpokmdkaaRR.Hp Go.Proofs.YtolojkfpokmdkaaRR.By Go.Proofs.YtolojkfpokmdkaaRR.Disk Go.Proofs.YtolojkfpokmdkaaRR.Word Go.Proofs.YtolojkfpokmdkaaRR.WordP Go.Proofs.YtolojkfpokmdkaaRR.Log Go.Proofs.YtolojkfpokmdkaaRR.Slot Go.Proofs.YtolojkfpokmdkaaRR.Jour
set_option linter.unusedVariables false
set_option linter.unusedSimpArgs false
/-- a disk from which a registry can be opened -/
structure SReg (s : DSt) (f : Nat → List Int) (gen : Int) (bs : List Int) (ws : List (List Int)) (x : RSt) : Prop where
  sy : Slot.Says s f
  two : Two f gen bs
  log : LogOk f gen ws
  says : Holds bs ws x
theorem set_same (f : Nat → List Int) (n : Nat) : (fun j => if j = n then f n else f j) = f := funext fun j => by
  by_cases c : j = n
  · rw [if_pos c, c]
  · rw [if_neg c]
theorem cr_add {s : DSt} {f : Nat → List Int} {gen : Int} {bs : List Int} {ws : List (List Int)} {x : RSt} (h : Slot.Firm s f) (hf : LenF f) (hT : Two f gen bs) (hL : LogOk f gen ws) (hH : Holds bs ws x) (y : Rec) (hy : y.ok) (hw : ws.length < 64) (keep : Int) :
    ∃ f' ws' x', SReg ((appS s ws.length (secL gen ws.length y.bytes)).crash keep 64) f' gen bs ws' x' ∧ (x' = x.app y ∨ (x' = x ∧ appE s ws.length (secL gen ws.length y.bytes) ≠ 0)) := by
  have hl := (Rec.len hy).1
  have hS := secL_len gen (ws.length : Int) y.bytes (by omega)
  obtain ⟨a1, a2⟩ := Slot.app_firm h ws.length (by omega) _ hS
  have l2 := log_app hL y.bytes (by omega) hw
  have t2 : Two (fun j => if j = ws.length then secL gen ws.length y.bytes else f j) gen bs := two_congr hT (fun k k1 k2 => if_neg (by omega))
  by_cases hE : appE s ws.length (secL gen ws.length y.bytes) = 0
  · exact ⟨_, _, _, ⟨Slot.crash_firm (a1 hE) keep 64, t2, l2, hH.snoc hy⟩, .inl rfl⟩
  · obtain ⟨T, hs, ht⟩ := Slot.crash_half (a2 hE) (by omega) hS (hf _) keep 64
    rcases ht with rfl | rfl | ht
    · rw [set_same] at hs
      exact ⟨_, _, _, ⟨hs, hT, hL, hH⟩, .inr ⟨rfl, hE⟩⟩
    · exact ⟨_, _, _, ⟨hs, t2, l2, hH.snoc hy⟩, .inl rfl⟩
    · omega
theorem nodup_le : ∀ (l m : List Int), l.Nodup → (∀ z, z ∈ l → z ∈ m) → l.length ≤ m.length
  | [], m, _, _ => Nat.zero_le _
  | z :: l, m, h, hs => by
    obtain ⟨h1, h2⟩ := List.nodup_cons.mp h
    have hz := hs z (List.mem_cons_self ..)
    have hi := nodup_le l (m.erase z) h2 (fun q hq => by
      have hne : q ≠ z := fun e => h1 (by rw [← e]; exact hq)
      exact (List.mem_erase_of_ne hne).mpr (hs q (List.mem_cons_of_mem _ hq)))
    have hl := List.length_erase_of_mem hz
    have hp : 0 < m.length := List.length_pos_of_mem hz
    rw [List.length_cons]
    omega
/-- what is asked of the list at the end -/
def TogOk (zs : List Int) (E : Int) (l : List Int) : Prop := (l ≠ [] → ∀ z, z ∈ zs → z ∈ l) ∧ l.length ≤ zs.length ∧ (E ≠ 0 ∨ zs = [] ∨ l ≠ [])
theorem zero_badL : RSt.zero.badL = [] := by decide +kernel
theorem newL_zero (zs : List Int) : newL RSt.zero zs = zs.map Int.toNat := by
  unfold newL
  exact List.filter_eq_self.mpr (fun _ _ => rfl)
theorem fr_mem {zs : List Int} (hz : zs.any (fun z => !isFr z) = false) {z : Int} (h : z ∈ zs) : 0 ≤ z ∧ z < 1024 := by
  have h1 := List.any_eq_false.mp hz z h
  unfold isFr at h1
  simpa using h1
theorem tog_app {zs : List Int} (hz : zs.any (fun z => !isFr z) = false) (E : Int) : TogOk zs E (RSt.zero.app (.bads (zs.map Int.toNat))).badL := by
  have hmem : ∀ k : Int, k ∈ (RSt.zero.app (.bads (zs.map Int.toNat))).badL ↔ k ∈ zs := fun k => by
    rw [badL_mem]
    show (0 ≤ k ∧ k.toNat < 1024 ∧ (false || decide (k.toNat ∈ zs.map Int.toNat)) = true) ↔ _
    rw [Bool.false_or, decide_eq_true_eq, List.mem_map]
    constructor
    · rintro ⟨h0, h1, q, hq, e⟩
      have := fr_mem hz hq
      rw [show k = q by omega]; exact hq
    · intro hk
      have := fr_mem hz hk
      exact ⟨this.1, by omega, k, hk, rfl⟩
  refine ⟨fun _ z h => (hmem z).mpr h, nodup_le _ _ (badL_sorted _).2 (fun z h => (hmem z).mp h), ?_⟩
  by_cases c : zs = []
  · exact .inr (.inl c)
  · obtain ⟨z, h⟩ := List.exists_mem_of_ne_nil zs c
    exact .inr (.inr fun e => by have := (hmem z).mpr h; rw [e] at this; cases this)
theorem tog_zero {zs : List Int} {E : Int} (h : E ≠ 0 ∨ zs = []) : TogOk zs E RSt.zero.badL := by
  rw [zero_badL]
  exact ⟨fun e => absurd rfl e, Nat.zero_le _, h.elim .inl (fun e => .inr (.inl e))⟩
end Go.Proofs.YtolojkfpokmdkaaRR.Reg
