/- Chapter 7: RegistryFull. -/
import Derived.Test.YtolojkfpokmdkaaRRRegR
namespace Go.Proofs.YtolojkfpokmdkaaRR.Reg
open Go.RowKit Go.Proofs.YtolojkfpokmdkaaRR.Hp Go.Proofs.YtolojkfpokmdkaaRR.By Go.Proofs.YtolojkfpokmdkaaRR.Disk Go.Proofs.YtolojkfpokmdkaaRR.Word Go.Proofs.YtolojkfpokmdkaaRR.WordP Go.Proofs.YtolojkfpokmdkaaRR.Log Go.Proofs.YtolojkfpokmdkaaRR.Slot Go.Proofs.YtolojkfpokmdkaaRR.Jour
set_option linter.unusedVariables false
set_option linter.unusedSimpArgs false
/-- a registry on a disk where nothing fails -/
def RegOn (w0 : World) (r j bm d : Nat) (x : RSt) (G K : Nat) (w : World) : Prop :=
  ∃ ρ s f gen bs ws, RegAt w0 w r j bm d ρ s gen ws.length x K ∧ DReg s f gen bs ws x ∧ gen ≤ (G : Int)
theorem RegOn.keep {w0 w w' : World} {r j bm d : Nat} {x : RSt} {G K : Nat} (h : RegOn w0 r j bm d x G K w) (hc : Chg NoB w w') : RegOn w0 r j bm d x G K w' := by
  obtain ⟨ρ, s, f, gen, bs, ws, h1, h2, h3⟩ := h
  exact ⟨ρ, s, f, gen, bs, ws, h1.keep hc, h2, h3⟩
theorem RegOn.ch {w0 w : World} {r j bm d : Nat} {x : RSt} {G K : Nat} (h : RegOn w0 r j bm d x G K w) : Chg NoB w0 w := by
  obtain ⟨ρ, s, f, gen, bs, ws, h1, h2, h3⟩ := h
  exact h1.jl.1.ch
theorem RegOn.rm {w0 w : World} {r j bm d : Nat} {x : RSt} {G K : Nat} (h : RegOn w0 r j bm d x G K w) : RM w r j bm x K := by
  obtain ⟨ρ, s, f, gen, bs, ws, h1, h2, h3⟩ := h
  exact h1.rm
theorem RegOn.canon {w0 w : World} {r j bm d : Nat} {x : RSt} {G K : Nat} (h : RegOn w0 r j bm d x G K w) : Canon x := by
  obtain ⟨ρ, s, f, gen, bs, ws, h1, h2, h3⟩ := h
  exact h2.says.canon
theorem RegOn.up {w0 w : World} {r j bm d : Nat} {x : RSt} {G K G' K' : Nat} (h : RegOn w0 r j bm d x G K w) (hg : G ≤ G') (hk : K ≤ K') : RegOn w0 r j bm d x G' K' w := by
  obtain ⟨ρ, s, f, gen, bs, ws, h1, h2, h3⟩ := h
  exact ⟨ρ, s, f, gen, bs, ws, ⟨h1.jl, h1.rm.up hk, h1.ne, h1.nw⟩, h2, by omega⟩
/-- a new one -/
def NewOn (w0 : World) (d : Nat) (x : RSt) (G : Nat) (e : Ending) (w' : World) : Prop := ∃ r j bm, e = .returned (.tuple #[.pointer (some ⟨r, 0, none⟩), .int .i64 0]) ∧ RegOn w0 r j bm d x G 2000 w'
theorem new_on {w0 w : World} {d : Nat} {ρ : Nat → Nat} (h : DL w0 w d ρ (DSt.new 192)) : Calls Try.prog 7 #[.pointer (some ⟨d, 0, none⟩)] w (NewOn w0 d RSt.zero 0) := by
  refine (open_any h (firm_says dreg_new.firm.1 dreg_new.calm) dreg_new.two (by decide) dreg_new.log dreg_new.says).mono ?_
  rintro e w' ⟨r, j, bm, rfl, h2, _⟩
  exact ⟨r, j, bm, rfl, ρ, _, _, _, _, _, h2, dreg_new, by omega⟩
/-- Open again: both are as the disk says -/
def AgainOn (w0 : World) (r j bm d : Nat) (x : RSt) (G K : Nat) (e : Ending) (w' : World) : Prop := ∃ q j2 bm2, e = .returned (.tuple #[.pointer (some ⟨q, 0, none⟩), .int .i64 0]) ∧ RegOn w0 q j2 bm2 d x G 2000 w' ∧ RM w' r j bm x K
theorem again_on {w0 w : World} {r j bm d : Nat} {x : RSt} {G K : Nat} (h : RegOn w0 r j bm d x G K w) (hG : G ≤ 100000) : Calls Try.prog 7 #[.pointer (some ⟨d, 0, none⟩)] w (AgainOn w0 r j bm d x G K) := by
  obtain ⟨ρ, s, f, gen, bs, ws, h1, h2, h3⟩ := h
  refine (open_any h1.jl.1 (firm_says h2.firm.1 h2.calm) h2.two (by omega) h2.log h2.says).mono ?_
  rintro e w' ⟨q, j2, bm2, rfl, h4, hC, _⟩
  exact ⟨q, j2, bm2, rfl, ⟨ρ, s, f, gen, bs, ws, h4, h2, h3⟩, h1.rm.keepO hC h1.ne.1.1 h1.ne.1.2⟩
def OnTo (w0 : World) (r j bm d : Nat) (x : RSt) (G K : Nat) (E : Int) (e : Ending) (w' : World) : Prop := e = .returned (.int .i64 E) ∧ RegOn w0 r j bm d x (G + 1) (K + 20) w'
theorem set_on {w0 w : World} {r j bm d : Nat} {x : RSt} {G K : Nat} (h : RegOn w0 r j bm d x G K w) (hG : G < 90000) (hK : K ≤ 900000) (s n : Nat) (hs : s < 32) (hn : n < 4) : Calls Try.prog 10 #[.pointer (some ⟨r, 0, none⟩), .int .i64 (s : Int), .int .i64 (n : Int)] w (OnTo w0 r j bm d (x.app (.state s n)) G K 0) := by
  have hh := h
  obtain ⟨ρ, sd, f, gen, bs, ws, h1, h2, h3⟩ := h
  have hso : stOk (s : Int) (n : Int) := ⟨⟨by omega, by omega⟩, by omega, by omega⟩
  refine (setst_any h1 (adds_calm h1 h2 (by omega) hK) (s : Int) (n : Int)).mono ?_
  rintro e w' ⟨E, rfl, hc⟩
  rcases hc with ⟨a, _⟩ | ⟨_, a, rfl, hC⟩ | ⟨_, _, rfl, ρ', s', f', gen', bs', ws', a1, a2, a3, _, _⟩
  · exact absurd hso a
  · rw [Int.toNat_natCast] at a
    have e : x.app (.state s n) = x := by
      show (⟨x.bad, fun q => if q = s then (n : Int) else x.st q⟩ : RSt) = x
      have : (fun q => if q = s then (n : Int) else x.st q) = x.st := funext fun q => by
        by_cases c : q = s
        · rw [if_pos c, c, a]
        · rw [if_neg c]
      rw [this]
    rw [e]
    exact ⟨rfl, (hh.keep hC).up (by omega) (by omega)⟩
  · rw [Int.toNat_natCast, Int.toNat_natCast] at a1 a2
    exact ⟨rfl, ρ', s', f', gen', bs', ws', a1, a2, by push_cast; omega⟩
/-- the state behind so many -/
def wantF : Nat → Nat
  | 0 => 0
  | k + 1 => 1 + k % 3
def FlRel (w : World) (r j bm d s n : Nat) (i : Value) (wr : World) : Prop := ∃ (k : Nat) (x : RSt), k ≤ n ∧ i = .int .i64 (k : Int) ∧ RegOn w r j bm d x k (2000 + 20 * k) wr ∧ x.st s = (wantF k : Int)
set_option maxRecDepth 100000 in
set_option maxHeartbeats 4000000 in
theorem registryFull (nn ss : Nat) (hnn : nn < 65536) (hss : ss < 256) (w : World) : Calls Try.prog 4 #[.int .u16 (nn : Int), .int .u8 (ss : Int)] w (True1 w) := by
  obtain ⟨n, hn⟩ : ∃ n : Nat, n = nn % 300 := ⟨_, rfl⟩
  obtain ⟨s, hs⟩ : ∃ s : Nat, s = ss % 32 := ⟨_, rfl⟩
  have hn1 : (nn : Int) % 300 = (n : Int) := by omega
  have hs1 : (ss : Int) % 32 = (s : Int) := by omega
  have hn2 : n < 300 := by omega
  have hs2 : s < 32 := by omega
  have bn : 0 ≤ (nn : Int) ∧ (nn : Int) < 65536 := ⟨by omega, by omega⟩
  have bs : 0 ≤ (ss : Int) ∧ (ss : Int) < 256 := ⟨by omega, by omega⟩
  clear hn hs
  go_enter Try.func4, Try.ntmps4
  go_wp2_with fail
  refine (l_new 192 (by omega) (by omega) w).mono ?_
  rintro e w1 ⟨d, ρ, rfl, h1⟩
  have hop := new_on h1
  clear h1
  go_wp2_with fail
  refine hop.mono ?_
  rintro e w2 ⟨r, j, bm, rfl, h2⟩
  have hB : FlRel w r j bm d s n (.int .i64 0) w2 := ⟨0, _, Nat.zero_le _, rfl, h2, rfl⟩
  clear hop h2
  go_wp2_with fail
  (try simp only [hn1, hs1])
  clear hn1 hs1 bn bs
  go_loopw [10] (fun i wr => FlRel w r j bm d s n i wr) (fun i wr => n - (intOf i).toNat)
  case atStart => exact hB
  case round =>
    clear hB
    obtain ⟨k, x, hk, rfl, hR, hx⟩ := hrel
    rcases Nat.eq_or_lt_of_le hk with hk2 | hk2
    · have e0 : decide ((k : Int) < (n : Int)) = false := decide_eq_false (by omega)
      have e1 : decide (k < n) = false := decide_eq_false (by omega)
      rw [hk2] at hR hx
      have hag := again_on hR (by omega)
      have hcn := hR.canon
      clear hR hk hk2
      have H := Lib.hid hx
      clear hx hcn
      go_wp2_with fail
      refine hag.mono ?_
      rintro e w3 ⟨q, j2, bm2, rfl, h3, hr3⟩
      clear hag e0 e1
      have HQ := Lib.hid (show ∀ w4, Chg NoB w3 w4 → Calls Try.prog 12 #[.pointer (some ⟨q, 0, none⟩), .int .i64 (s : Int)] w4 (fun e w' => e = .returned (.int .i64 (wantF n : Int)) ∧ w4 = w') ∧ Calls Try.prog 12 #[.pointer (some ⟨r, 0, none⟩), .int .i64 (s : Int)] w4 (fun e w' => e = .returned (.int .i64 (wantF n : Int)) ∧ w4 = w') ∧ True1 w (.returned (.bool true)) w4 from fun w4 hC => by
        have a := stat_any (h3.keep hC).rm s hs2
        have b := stat_any (hr3.chg hC (fun e => e) (fun e => e)) s hs2
        rw [H.out] at a b
        exact ⟨a, b, rfl, (h3.keep hC).ch⟩)
      clear h3 hr3 H
      cases n with
      | zero =>
        have d0 : decide ((0 : Int) < ((0 : Nat) : Int)) = false := by decide
        go_wp2_with fail
        refine (answers_any _).mono ?_
        rintro e w4 ⟨rfl, hC4⟩
        obtain ⟨ha, hb, F⟩ := HQ.out w4 hC4
        have ha' : Calls Try.prog 12 #[.pointer (some ⟨q, 0, none⟩), .int .i64 (s : Int)] w4 (fun e w' => e = .returned (.int .i64 0) ∧ w4 = w') := ha
        have hb' : Calls Try.prog 12 #[.pointer (some ⟨r, 0, none⟩), .int .i64 (s : Int)] w4 (fun e w' => e = .returned (.int .i64 0) ∧ w4 = w') := hb
        clear ha hb HQ hC4
        go_wp2_with fail
        refine ha'.mono ?_
        rintro e w5 ⟨rfl, rfl⟩
        clear ha'
        go_wp2_with fail
        refine hb'.mono ?_
        rintro e w5 ⟨rfl, rfl⟩
        clear hb'
        go_wp2_with fail
        go_ret
        exact F
      | succ k' =>
        have d0 : decide ((0 : Int) < ((k' + 1 : Nat) : Int)) = true := decide_eq_true (by omega)
        have d1 : decide (0 < k' + 1) = true := decide_eq_true (by omega)
        have bk : (k' : Int) < 300 := by omega
        go_wp2_with fail
        refine (answers_any _).mono ?_
        rintro e w4 ⟨rfl, hC4⟩
        obtain ⟨ha, hb, F⟩ := HQ.out w4 hC4
        rw [show (wantF (k' + 1) : Int) = 1 + (k' : Int) % 3 by show ((1 + k' % 3 : Nat) : Int) = _; omega] at ha hb
        clear HQ hC4
        go_wp2_with fail
        refine ha.mono ?_
        rintro e w5 ⟨rfl, rfl⟩
        clear ha
        go_wp2_with fail
        refine hb.mono ?_
        rintro e w5 ⟨rfl, rfl⟩
        clear hb
        go_wp2_with fail
        go_ret
        exact F
    · have e0 : decide ((k : Int) < (n : Int)) = true := decide_eq_true (by omega)
      have e1 : decide (k < n) = true := decide_eq_true hk2
      have hst := set_on hR (by omega) (by omega) s (1 + k % 3) hs2 (by omega)
      rw [show ((1 + k % 3 : Nat) : Int) = 1 + (k : Int) % 3 by omega] at hst
      have hms := Lib.hid (show n - ((k : Int) + 1).toNat < n - (k : Int).toNat by omega)
      have F := Lib.hid (show ∀ w', RegOn w r j bm d (x.app (.state s (1 + k % 3))) (k + 1) (2000 + 20 * k + 20) w' → FlRel w r j bm d s n (.int .i64 ((k : Int) + 1)) w' from fun w' h' => ⟨k + 1, _, hk2, rfl, h'.up (by omega) (by omega), by
        show (if s = s then ((1 + k % 3 : Nat) : Int) else x.st s) = _
        rw [if_pos rfl]; rfl⟩)
      have bk : 0 ≤ (k : Int) ∧ (k : Int) < 300 := ⟨by omega, by omega⟩
      clear hR hx hk hk2
      go_wp2_with fail
      refine hst.mono ?_
      rintro e w3 ⟨rfl, h3⟩
      have F' := Lib.hid (F.out w3 h3)
      clear hst h3 F
      go_wp2_with fail
      exact ⟨F'.out, hms.out⟩
theorem wf8f {n : Int} (h : (Lit.int .u8 n).wf = true) : 0 ≤ n ∧ n < 256 := by
  simp only [Lit.wf, Bool.and_eq_true, decide_eq_true_eq] at h
  have e1 : IntKind.u8.min = 0 := rfl
  have e2 : IntKind.u8.max = 255 := rfl
  omega
theorem wf16f {n : Int} (h : (Lit.int .u16 n).wf = true) : 0 ≤ n ∧ n < 65536 := by
  simp only [Lit.wf, Bool.and_eq_true, decide_eq_true_eq] at h
  have e1 : IntKind.u16.min = 0 := rfl
  have e2 : IntKind.u16.max = 65535 := rfl
  omega
theorem registryFull_row (a0 a1 : Int) (W : World) (w0 : (Lit.int .u16 a0).wf = true) (w1 : (Lit.int .u8 a1).wf = true) :
    Calls Try.prog 4 #[.int .u16 a0, .int .u8 a1] W fun e w' => e = .returned (.bool true) ∧ Below W.heap.size W w' := by
  obtain ⟨b0, b1⟩ := wf16f w0
  obtain ⟨c0, c1⟩ := wf8f w1
  obtain ⟨n, rfl⟩ : ∃ n : Nat, a0 = (n : Int) := ⟨a0.toNat, by omega⟩
  obtain ⟨m, rfl⟩ : ∃ m : Nat, a1 = (m : Int) := ⟨a1.toNat, by omega⟩
  exact (registryFull n m (by omega) (by omega) W).mono fun _ _ q => q.row
end Go.Proofs.YtolojkfpokmdkaaRR.Reg
