/- Chapter 7: done; a crash, and Open behind it. -/
import Derived.Test.YtolojkfpokmdkaaRRRegT
namespace Go.Proofs.YtolojkfpokmdkaaRR.Reg
open Go.RowKit Go.Proofs.YtolojkfpokmdkaaRR.Hp Go.Proofs.YtolojkfpokmdkaaRR.By Go.Proofs.YtolojkfpokmdkaaRR.Disk Go.Proofs.YtolojkfpokmdkaaRR.Word Go.Proofs.YtolojkfpokmdkaaRR.WordP Go.Proofs.YtolojkfpokmdkaaRR.Log Go.Proofs.YtolojkfpokmdkaaRR.Slot Go.Proofs.YtolojkfpokmdkaaRR.Jour
set_option linter.unusedVariables false
set_option linter.unusedSimpArgs false
theorem row_nil {w : World} {A : Option Addr} {len cap : Nat} {zs : List Int} (h : IsRow .i64 w A len cap zs) : A = none → cap = 0 ∧ zs.take len = [] := fun e => by
  rcases h with ⟨_, rfl, rfl, rfl⟩ | ⟨x, h, _⟩
  · exact ⟨rfl, rfl⟩
  · rw [e] at h; cases h
theorem addbad_long (r : Nat) (A : Option Addr) (m c : Nat) (w : World) (hl : 20 < m) : Calls Try.prog 9 #[.pointer (some ⟨r, 0, none⟩), .slice A m c] w fun e w' => e = .returned (.int .i64 1) ∧ Chg NoB w w' := by
  obtain ⟨W, hW⟩ : ∃ W, W = w.alloc (.cells #[.pointer (some ⟨r, 0, none⟩)] 22) := ⟨_, rfl⟩
  have hC : Chg NoB w W := by rw [hW]; exact (Chg.refl _ _).alloc _
  have hB : Blk W w.heap.size #[.pointer (some ⟨r, 0, none⟩)] 22 := by rw [hW]; exact bnew w _
  have b0 : W.cell? ⟨w.heap.size, 0, none⟩ = some (.pointer (some ⟨r, 0, none⟩)) := by rw [bcell hB]; rfl
  have d1 : decide (20 < (m : Int)) = true := decide_eq_true (by omega)
  have d2 : decide (20 < m) = true := decide_eq_true (by omega)
  clear hB
  go_enter Try.func9, Try.ntmps9
  go_upto_region 1 with fail
  rw [← hW]
  clear hW
  go_wp2_with fail
  go_ret
  exact ⟨rfl, hC⟩
set_option maxRecDepth 100000 in
set_option maxHeartbeats 2000000 in
theorem done_z {w0 w : World} {Z : Nat → Prop} {r j bm d : Nat} {x : RSt} {G K : Nat} (h : RegZ w0 Z r j bm d x G K w) (hG : G < 90000) (hK : K ≤ 900000) (a : GAct) (hr : IsRow .i64 w a.A a.len a.cap a.zs) :
    Calls Try.prog 14 #[.pointer (some ⟨r, 0, none⟩), .agg #[.slice a.A a.len a.cap, .bool a.set_, .int .i64 a.sc, .int .i64 a.st]] w (DoneTo w0 w Z r j bm d x G K) := by
  obtain ⟨A, len, cap, zs, b, sc, st⟩ := a
  dsimp only at hr ⊢
  obtain ⟨W, hW⟩ : ∃ W, W = w.alloc (.cells #[.slice A len cap, .bool b, .int .i64 sc, .int .i64 st] 41) := ⟨_, rfl⟩
  have hC : Chg NoB w W := by rw [hW]; exact (Chg.refl _ _).alloc _
  have hb : Blk W w.heap.size #[.slice A len cap, .bool b, .int .i64 sc, .int .i64 st] 41 := by rw [hW]; exact bnew w _
  have b0 : W.cell? ⟨w.heap.size, 0, none⟩ = some (.slice A len cap) := by rw [bcell hb]; rfl
  have b1 : W.cell? ⟨w.heap.size, 1, none⟩ = some (.bool b) := by rw [bcell hb]; rfl
  have b2 : W.cell? ⟨w.heap.size, 2, none⟩ = some (.int .i64 sc) := by rw [bcell hb]; rfl
  have b3 : W.cell? ⟨w.heap.size, 3, none⟩ = some (.int .i64 st) := by rw [bcell hb]; rfl
  have hab : Calls Try.prog 9 #[.pointer (some ⟨r, 0, none⟩), .slice A len cap] W (DoneTo w0 W Z r j bm d x G K) := by
    by_cases hl : 20 < len
    · refine (addbad_long r A len cap W hl).mono ?_
      rintro e w' ⟨rfl, hC'⟩
      exact ⟨_, x, rfl, ((h.keep hC).keep hC').up (by omega) (by omega), More.rfl' x, hC'.mono (fun _ _ q => q.elim)⟩
    · obtain ⟨q1, q2, _, _⟩ := rd_of_row hr (by omega)
      have hab := add_z (h.keep hC) hG hK A cap (zs.take len) (q1.chg hC (fun _ _ _ x => x)) (row_nil hr)
      rw [q2] at hab
      exact hab
  have hst := set_z (h.keep hC) hG hK sc st
  have F := Lib.hid (show ∀ e w', DoneTo w0 W Z r j bm d x G K e w' → DoneTo w0 w Z r j bm d x G K e w' from fun e w' ⟨E, x', h1, h2, h3, h4⟩ => ⟨E, x', h1, h2, h3, (hC.mono (fun _ _ q => q.elim)).trans h4 (fun _ _ q => q)⟩)
  clear h hr hC hb
  generalize DoneTo w0 w Z r j bm d x G K = P at *
  cases b with
  | true =>
    go_enter Try.func14, Try.ntmps14
    go_upto_region 1 with fail
    rw [← hW]
    clear hW hab
    go_wp2_with fail
    refine hst.mono ?_
    intro e w' hq
    have Q := F.out e w' hq
    obtain ⟨E, x', rfl, _⟩ := hq
    clear hst F
    go_wp2_with fail
    exact Q
  | false =>
    go_enter Try.func14, Try.ntmps14
    go_upto_region 1 with fail
    rw [← hW]
    clear hW hst
    go_wp2_with fail
    refine hab.mono ?_
    intro e w' hq
    have Q := F.out e w' hq
    obtain ⟨E, x', rfl, _⟩ := hq
    clear hab F
    go_wp2_with fail
    exact Q
theorem crash_dreg {s : DSt} {f : Nat → List Int} {gen : Int} {bs : List Int} {ws : List (List Int)} {x : RSt} (h : DReg s f gen bs ws x) (keep torn : Int) : DReg (s.crash keep torn) f gen bs ws x := by
  have hs := Slot.crash_firm h.firm.1 keep torn
  refine ⟨⟨⟨h.firm.1.1, fun j => ?_, fun j => rfl⟩, h.firm.2⟩, hs.1, h.two, h.log, h.says⟩
  have := hs.2.2 j
  rw [← this]
  show _ = ((s.crash keep torn).loose ((j : Nat) : Int).toNat).getD ((s.crash keep torn).sure ((j : Nat) : Int).toNat)
  rw [Int.toNat_natCast]
  rfl
def CrZ (w0 w : World) (Z : Nat → Prop) (r j bm d : Nat) (x : RSt) (G K : Nat) (e : Ending) (w' : World) : Prop := e = .returned (.tuple #[]) ∧ RegZ w0 Z r j bm d x G K w' ∧ Chg (fun i => ¬ Z i) w w'
theorem crash_z {w0 w : World} {Z : Nat → Prop} {r j bm d : Nat} {x : RSt} {G K : Nat} (h : RegZ w0 Z r j bm d x G K w) (keep torn : Int) (k0 : 0 ≤ keep) (k1 : keep < 18446744073709551616) : Calls Try.prog 15 #[.pointer (some ⟨d, 0, none⟩), .int .u64 keep, .int .i64 torn] w (CrZ w0 w Z r j bm d x G K) := by
  obtain ⟨ρ, s, f, gen, bs, ws, h1, h2, h3, h4⟩ := h
  refine (l_crash keep torn k0 k1 h1.jl.1).mono ?_
  rintro e w' ⟨rfl, hC, ρ', hD, hρ⟩
  have hz : ∀ i, ρ i = 0 → ρ' i = 0 := fun i hi => by
    by_cases c : ρ' i = 0
    · exact c
    · exact absurd hi ((hρ i).mp c)
  refine ⟨rfl, ⟨ρ', _, f, gen, bs, ws, ⟨h1.jl.mk' hC hD (fun i _ hi => hz i hi), h1.rm.keepO hC h1.ne.1.1 h1.ne.1.2, ⟨⟨hz r h1.ne.1.1, hz bm h1.ne.1.2⟩, h1.ne.2⟩, h1.nw⟩, crash_dreg h2 keep torn, h3, fun i hi => ⟨Nat.lt_of_lt_of_le (h4 i hi).1 hC.size, fun q => (h4 i hi).2 (q.elim (fun q => .inl ((hρ i).mp q)) .inr)⟩⟩, hC.mono (fun i _ q z => (h4 i z).2 (.inl q))⟩
def OpZ (w0 w : World) (Z : Nat → Prop) (d : Nat) (x : RSt) (G : Nat) (e : Ending) (w' : World) : Prop := ∃ q j2 bm2, e = .returned (.tuple #[.pointer (some ⟨q, 0, none⟩), .int .i64 0]) ∧ RegOn w0 q j2 bm2 d x G 2000 w' ∧ Chg (fun i => ¬ Z i) w w'
theorem open_z {w0 w : World} {Z : Nat → Prop} {r j bm d : Nat} {x : RSt} {G K : Nat} (h : RegZ w0 Z r j bm d x G K w) (hG : G ≤ 100000) : Calls Try.prog 7 #[.pointer (some ⟨d, 0, none⟩)] w (OpZ w0 w Z d x G) := by
  obtain ⟨ρ, s, f, gen, bs, ws, h1, h2, h3, h5⟩ := h
  refine (open_any h1.jl.1 (firm_says h2.firm.1 h2.calm) h2.two (by omega) h2.log h2.says).mono ?_
  rintro e w' ⟨q, j2, bm2, rfl, h4, hC, _⟩
  exact ⟨q, j2, bm2, rfl, ⟨ρ, s, f, gen, bs, ws, h4, h2, h3⟩, hC.mono (fun i _ p z => (h5 i z).2 (.inl p))⟩
end Go.Proofs.YtolojkfpokmdkaaRR.Reg
