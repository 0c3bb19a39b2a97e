/- Chapter 7: add, where there is room. -/
import Derived.Test.YtolojkfpokmdkaaRRRegG
namespace Go.Proofs.YtolojkfpokmdkaaRR.Reg
open Go.RowKit Go.Proofs.YtolojkfpokmdkaaRR.Hp Go.Proofs.YtolojkfpokmdkaaRR.By Go.Proofs.YtolojkfpokmdkaaRR.Disk Go.Proofs.YtolojkfpokmdkaaRR.Word Go.Proofs.YtolojkfpokmdkaaRR.WordP Go.Proofs.YtolojkfpokmdkaaRR.Log Go.Proofs.YtolojkfpokmdkaaRR.Slot Go.Proofs.YtolojkfpokmdkaaRR.Jour
set_option linter.unusedVariables false
set_option linter.unusedSimpArgs false
/-- a registry's blocks -/
def AX (ρ : Nat → Nat) (r j bm : Nat) (i : Nat) : Prop := Own ρ i ∨ i = j ∨ i = r ∨ i = bm
def AddPost (w0 w : World) (r j bm d : Nat) (ρ : Nat → Nat) (s' : DSt) (gen : Int) (n : Nat) (x : RSt) (K : Nat) (y : Rec) (E : Int) (e : Ending) (w' : World) : Prop :=
  e = .returned (.int .i64 E) ∧ (∃ ρ', RegAt w0 w' r j bm d ρ' s' gen (if E = 0 then n + 1 else n) (if E = 0 then x.app y else x) (K + 20) ∧ ∀ i, i < w.heap.size → ρ i = 0 → ρ' i = 0) ∧ Chg (AX ρ r j bm) w w'
theorem RegAt.lt {w0 w : World} {r j bm d : Nat} {ρ : Nat → Nat} {s : DSt} {gen : Int} {n : Nat} {x : RSt} {K : Nat} (h : RegAt w0 w r j bm d ρ s gen n x K) : (r < w.heap.size ∧ bm < w.heap.size ∧ j < w.heap.size) ∧ ∀ i, Own ρ i → i < w.heap.size :=
  ⟨⟨h.rm.lt.1, h.rm.lt.2, blt (show Blk w j _ _ from h.jl.2.1)⟩, own_lt_size h.jl.1⟩
theorem rec_size {y : Rec} (hy : y.ok) : y.size ≤ 20 := by
  cases y with
  | bads l => exact hy.1.2
  | state _ _ => exact Nat.zero_le _
set_option maxRecDepth 100000 in
set_option maxHeartbeats 4000000 in
theorem add_lt {w0 w : World} {r j bm d : Nat} {ρ : Nat → Nat} {s : DSt} {gen : Int} {n : Nat} {x : RSt} {K : Nat} (h : RegAt w0 w r j bm d ρ s gen n x K) (hsn : s.n = 192) (g0 : 0 ≤ gen) (g1 : gen < 4294967296) (hn : n < 64) (y : Rec) (hy : y.ok) (hK : K ≤ 900000) (A : Option Addr) (c : Nat) (hr : Rd w .u8 A y.bytes) (ho : Off A (AX ρ r j bm)) (hc : y.bytes.length ≤ c) :
    Calls Try.prog 27 #[.pointer (some ⟨r, 0, none⟩), .slice A y.bytes.length c] w (AddPost w0 w r j bm d ρ (appS s n (secL gen n y.bytes)) gen n x K y (appE s n (secL gen n y.bytes))) := by
  have hl := Rec.len hy
  have hb := Rec.byt hy
  have hsz := rec_size hy
  have hap := japp_any h.jl A c y.bytes g0 g1 (by omega) (by omega) (by omega) hr hb
  have hS := secL_len gen (n : Int) y.bytes (by omega)
  have hE := app_err s n (secL gen n y.bytes) hn hsn hS
  obtain ⟨c0, c1⟩ := h.rm.rb.two
  obtain ⟨S, hSd⟩ : ∃ S, S = secL gen n y.bytes := ⟨_, rfl⟩
  unfold JAppPost at hap
  rw [← hSd] at hap hE ⊢
  have hlt := h.lt
  have mk : ∀ w1 ρ1, Chg (fun i => Own ρ i ∨ i = j) w w1 → (∀ i, i < w.heap.size → ρ i = 0 → ρ1 i = 0) → JL w0 w1 j d ρ1 (appS s n S) gen (if appE s n S = 0 then (n : Int) + 1 else (n : Int)) false → RM w1 r j bm x K ∧ Rd w1 .u8 A y.bytes ∧ Far A r bm := fun w1 ρ1 hC hz hJ =>
    ⟨h.rm.chg hC (fun e => e.elim (fun e => e h.ne.1.1) (fun e => h.ne.2.1 e)) (fun e => e.elim (fun e => e h.ne.1.2) (fun e => h.ne.2.2 e)), hr.chg hC (fun _ b e q => ho b e (q.elim .inl (fun q => .inr (.inl q)))), fun b e => ⟨fun q => ho b e (.inr (.inr (.inl q))), fun q => ho b e (.inr (.inr (.inr q)))⟩⟩
  have H := Lib.hid (And.intro h (And.intro hlt (And.intro hsz (And.intro hy (And.intro mk (And.intro hK hc))))))
  clear h hlt hr ho hb hsz hSd hS mk hc c1 hl hy
  generalize appE s n S = E at *
  generalize appS s n S = s1 at *
  obtain ⟨lb, hlb⟩ : ∃ lb, lb = y.bytes.length := ⟨_, rfl⟩
  rw [← hlb] at hap ⊢
  have HL := Lib.hid hlb
  clear hlb
  go_enter Try.func27, Try.ntmps27
  go_wp2_with fail
  refine hap.mono ?_
  rintro e w1 ⟨rfl, ρ1, hJ, hC, hz⟩
  have hm := H.out.2.2.2.2.1 w1 ρ1 hC hz hJ
  clear hap c0
  by_cases hE0 : E = 0
  · subst hE0
    rw [if_pos rfl] at hJ
    have hcl := apply_any hm.1 y H.out.2.2.2.1 (by have := H.out.2.2.2.2.2.1; omega) A c hm.2.1 hm.2.2 H.out.2.2.2.2.2.2
    rw [← HL.out] at hcl
    have HJ := Lib.hid (And.intro hJ (And.intro hC hz))
    clear hm hJ hC hz hE
    go_wp2_with fail
    refine hcl.mono ?_
    rintro e w2 ⟨rfl, hM, hC2⟩
    have F := Lib.hid (show AddPost w0 w r j bm d ρ s1 gen n x K y 0 (.returned (.int .i64 0)) w2 from by
      obtain ⟨hJ, hC, hz⟩ := HJ.out
      obtain ⟨h, hlt, hsz, _⟩ := H.out
      unfold AddPost
      rw [if_pos rfl, if_pos rfl]
      refine ⟨rfl, ⟨ρ1, ⟨?_, hM.up (by omega), ⟨⟨hz r hlt.1.1 h.ne.1.1, hz bm hlt.1.2.1 h.ne.1.2⟩, h.ne.2⟩, h.nw⟩, hz⟩, (hC.mono (fun i _ e => e.elim .inl (fun e => .inr (.inl e)))).trans hC2 (fun i _ e => e.elim (fun e => .inr (.inr (.inl e))) (fun e => .inr (.inr (.inr e))))⟩
      refine JL.sides (show JL w0 w1 j d ρ1 _ gen ((n + 1 : Nat) : Int) false from by push_cast; exact hJ) hC2 (fun i hi => ?_)
      rcases hi with rfl | rfl
      · exact ⟨hz _ hlt.1.1 h.ne.1.1, h.nw.1, h.ne.2.1⟩
      · exact ⟨hz _ hlt.1.2.1 h.ne.1.2, h.nw.2, h.ne.2.2⟩)
    clear hcl hM hC2 HJ H
    go_wp2_with fail
    go_ret
    exact F.out
  · have e4 : (E == 4) = false := by rw [beq_eq_false_iff_ne]; omega
    have e0 : (E == 0) = false := by rw [beq_eq_false_iff_ne]; exact hE0
    rw [if_neg hE0] at hJ
    have F := Lib.hid (show AddPost w0 w r j bm d ρ s1 gen n x K y E (.returned (.int .i64 E)) w1 from by
      obtain ⟨h, hlt, hsz, _⟩ := H.out
      unfold AddPost
      rw [if_neg hE0, if_neg hE0]
      exact ⟨rfl, ⟨ρ1, ⟨hJ, hm.1.up (by omega), ⟨⟨hz r hlt.1.1 h.ne.1.1, hz bm hlt.1.2.1 h.ne.1.2⟩, h.ne.2⟩, h.nw⟩, hz⟩, hC.mono (fun i _ e => e.elim .inl (fun e => .inr (.inl e)))⟩)
    clear hm hJ hC hz hE H hE0
    go_wp2_with fail
    go_ret
    exact F.out
end Go.Proofs.YtolojkfpokmdkaaRR.Reg
