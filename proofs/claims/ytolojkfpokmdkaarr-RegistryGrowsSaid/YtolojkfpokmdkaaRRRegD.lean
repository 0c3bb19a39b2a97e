/- Chapter 7: rebuilt. -/
import Derived.Test.YtolojkfpokmdkaaRRRegC
namespace Go.Proofs.YtolojkfpokmdkaaRR.Reg
open Go.RowKit Go.Proofs.YtolojkfpokmdkaaRR.Hp Go.Proofs.YtolojkfpokmdkaaRR.By Go.Proofs.YtolojkfpokmdkaaRR.Disk Go.Proofs.YtolojkfpokmdkaaRR.Word Go.Proofs.YtolojkfpokmdkaaRR.WordP Go.Proofs.YtolojkfpokmdkaaRR.Log Go.Proofs.YtolojkfpokmdkaaRR.Slot Go.Proofs.YtolojkfpokmdkaaRR.Jour
set_option linter.unusedVariables false
set_option linter.unusedSimpArgs false
/-- eight of them in a byte -/
def val8 (b0 b1 b2 b3 b4 b5 b6 b7 : Bool) : Nat := b0.toNat + 2 * b1.toNat + 4 * b2.toNat + 8 * b3.toNat + 16 * b4.toNat + 32 * b5.toNat + 64 * b6.toNat + 128 * b7.toNat
def byteN (bad : Nat → Bool) (i : Nat) : Nat := val8 (bad (8 * i)) (bad (8 * i + 1)) (bad (8 * i + 2)) (bad (8 * i + 3)) (bad (8 * i + 4)) (bad (8 * i + 5)) (bad (8 * i + 6)) (bad (8 * i + 7))
def bitsB (bad : Nat → Bool) : List Int := (List.range 128).map (fun i => (byteN bad i : Int))
def baseB (x : RSt) : List Int := bitsB x.bad ++ (List.range 32).map (fun s => x.st s)
def StOk (st : Nat → Int) : Prop := ∀ s, s < 32 → 0 ≤ st s ∧ st s ≤ 3
theorem byte_lt (bad : Nat → Bool) (i : Nat) : byteN bad i < 256 := by
  have h : ∀ b : Bool, b.toNat ≤ 1 := fun b => by cases b <;> decide
  unfold byteN val8
  have := h (bad (8 * i)); have := h (bad (8 * i + 1)); have := h (bad (8 * i + 2)); have := h (bad (8 * i + 3)); have := h (bad (8 * i + 4)); have := h (bad (8 * i + 5)); have := h (bad (8 * i + 6)); have := h (bad (8 * i + 7))
  omega
theorem bits_len (bad : Nat → Bool) : (bitsB bad).length = 128 := by simp [bitsB]
theorem base_len (x : RSt) : (baseB x).length = 160 := by simp [baseB, bits_len]
theorem base_bits (x : RSt) {i : Nat} (h : i < 128) : (baseB x).getD i 0 = (byteN x.bad i : Int) := by
  unfold baseB
  rw [List.getD_eq_getElem?_getD, List.getElem?_append_left (by rw [bits_len]; exact h)]
  unfold bitsB
  rw [List.getElem?_map, List.getElem?_range h]; rfl
theorem base_st (x : RSt) {s : Nat} (h : s < 32) : (baseB x).getD (128 + s) 0 = x.st s := by
  unfold baseB
  rw [List.getD_eq_getElem?_getD, List.getElem?_append_right (by rw [bits_len]; omega), bits_len, Nat.add_sub_cancel_left, List.getElem?_map, List.getElem?_range h]; rfl
def sel8 (b0 b1 b2 b3 b4 b5 b6 b7 : Bool) (z : Nat) : Bool := match z with | 0 => b0 | 1 => b1 | 2 => b2 | 3 => b3 | 4 => b4 | 5 => b5 | 6 => b6 | _ => b7
set_option maxRecDepth 100000 in
theorem bit8 : ∀ b0 b1 b2 b3 b4 b5 b6 b7 : Bool, ∀ z, z < 8 → (bits BinOp.and IntKind.u8 ((val8 b0 b1 b2 b3 b4 b5 b6 b7 : Int) / 2 ^ z) 1 == 1) = sel8 b0 b1 b2 b3 b4 b5 b6 b7 z := by decide +kernel
theorem sel_at (bad : Nat → Bool) (q z : Nat) (hz : z < 8) : sel8 (bad (8 * q)) (bad (8 * q + 1)) (bad (8 * q + 2)) (bad (8 * q + 3)) (bad (8 * q + 4)) (bad (8 * q + 5)) (bad (8 * q + 6)) (bad (8 * q + 7)) z = bad (8 * q + z) := by
  match z, hz with
  | 0, _ => rfl
  | 1, _ => rfl
  | 2, _ => rfl
  | 3, _ => rfl
  | 4, _ => rfl
  | 5, _ => rfl
  | 6, _ => rfl
  | 7, _ => rfl
theorem bit_at (bad : Nat → Bool) (k : Nat) : (bits BinOp.and IntKind.u8 ((byteN bad (k / 8) : Int) / 2 ^ (k % 8)) 1 == 1) = bad k := by
  have hz : k % 8 < 8 := Nat.mod_lt _ (by decide)
  unfold byteN
  rw [bit8 _ _ _ _ _ _ _ _ _ hz, sel_at bad _ _ hz, show 8 * (k / 8) + k % 8 = k by omega]
theorem add_none (b o n : Nat) : (⟨b, o, none⟩ : Addr).add n = ⟨b, o + n, none⟩ := by unfold Addr.add; split <;> simp_all
def RbRel (w : World) (r j bm : Nat) (x : RSt) (bad : Nat → Bool) (i : Value) (wr : World) : Prop :=
  ∃ k : Nat, k ≤ 1024 ∧ i = .int .i64 (k : Int) ∧ RM wr r j bm ⟨fun f => decide (f < k) && bad f, x.st⟩ 1 ∧ Chg (RX r bm) w wr
def Rb2Rel (w : World) (r j bm : Nat) (x : RSt) (i : Value) (wr : World) : Prop :=
  ∃ k : Nat, k ≤ 32 ∧ i = .int .i64 (k : Int) ∧ RM wr r j bm ⟨fun f => decide (f < 1024) && x.bad f, fun s => if s < k then x.st s else 0⟩ 1 ∧ Chg (RX r bm) w wr
set_option maxRecDepth 100000 in
set_option maxHeartbeats 4000000 in
theorem rebuilt_any {w : World} {r j bm : Nat} (h : RM w r j bm RSt.zero 0) (x : RSt) (hx : StOk x.st) (A : Option Addr) (c : Nat) (hr : Rd w .u8 A (baseB x)) (hfar : Far A r bm) (hc : 160 ≤ c) :
    Calls Try.prog 18 #[.pointer (some ⟨r, 0, none⟩), .slice A 160 c] w (ApplyPost w r j bm ⟨fun f => decide (f < 1024) && x.bad f, fun s => if s < 32 then x.st s else 0⟩ 1) := by
  have hB : RbRel w r j bm RSt.zero x.bad (.int .i64 0) w := ⟨0, by decide, rfl, by
    have e : (fun f => decide (f < 0) && x.bad f) = (fun _ => false) := funext fun f => by simp
    rw [e]
    exact h.up (by decide), Chg.refl _ _⟩
  obtain ⟨ad, hA, _⟩ := hr.at_ 0 (by rw [base_len]; decide)
  subst hA
  have HA := Lib.hid (And.intro hr (And.intro hfar hx))
  clear h hr hfar
  go_enter Try.func18, Try.ntmps18
  go_wp2_with fail
  go_loopw [14] (fun i wr => RbRel w r j bm RSt.zero x.bad i wr) (fun i wr => 1024 - (intOf i).toNat)
  case atStart => exact hB
  case round =>
    clear hB
    obtain ⟨k, hk, rfl, hM, hC⟩ := hrel
    rcases Nat.eq_or_lt_of_le hk with hk2 | hk2
    · have e0 : decide ((k : Int) < 1024) = false := decide_eq_false (by omega)
      have e1 : decide (k < 1024) = false := decide_eq_false (by omega)
      have c128 : ¬ c = 128 := by omega
      have hrd := rd_next (n := 128) HA.out.1 (by decide) (by rw [base_len]; omega)
      rw [if_neg c128] at hrd
      have H2 := Lib.hid (And.intro hrd (far_next (n := 128) (c := c) HA.out.2.1))
      have hB2 : Rb2Rel w r j bm x (.int .i64 0) wr := ⟨0, by decide, rfl, by
        have e : (fun s : Nat => if s < 0 then x.st s else 0) = (fun _ => (0 : Int)) := funext fun s => if_neg (by omega)
        rw [e, ← hk2]
        exact hM, hC⟩
      clear hM hC hk hk2 hrd
      go_wp2_with fail
      go_loopw [38] (fun i wr => Rb2Rel w r j bm x i wr) (fun i wr => 32 - (intOf i).toNat)
      case atStart => exact hB2
      case round =>
        clear hB2
        obtain ⟨s, hs, rfl, hM, hC⟩ := hrel
        rcases Nat.eq_or_lt_of_le hs with hs2 | hs2
        · have g0 : decide ((s : Int) < 32) = false := decide_eq_false (by omega)
          have g1 : decide (s < 32) = false := decide_eq_false (by omega)
          have F := Lib.hid (show ApplyPost w r j bm ⟨fun f => decide (f < 1024) && x.bad f, fun s => if s < 32 then x.st s else 0⟩ 1 (.returned (.bool true)) wr from ⟨rfl, by rw [hs2] at hM; exact hM, hC⟩)
          clear hM hC hs hs2
          go_wp2_with fail
          go_ret
          exact F.out
        · have g0 : decide ((s : Int) < 32) = true := decide_eq_true (by omega)
          have g1 : decide (s < 32) = true := decide_eq_true hs2
          have i1 : (s : Int) < 32 := by omega
          obtain ⟨ad', hA, hx0⟩ := H2.out.1.at_ s (by rw [List.length_drop, base_len]; omega)
          obtain rfl := Option.some.inj hA
          have hst : ((baseB x).drop 128).getD s 0 = x.st s := by
            rw [List.getD_eq_getElem?_getD, List.getElem?_drop, ← List.getD_eq_getElem?_getD]
            exact base_st x hs2
          rw [hst] at hx0
          have hfar := HA.out.2.1 ad rfl
          have x0 := hC.cell hx0 (fun e => by
            rw [add_block'] at e
            exact e.elim (fun e => hfar.1 e) (fun e => hfar.2 e))
          rw [add_none] at x0
          have bs : 0 ≤ x.st s ∧ x.st s ≤ 3 := HA.out.2.2 s hs2
          have hso := state_any (s : Int) (x.st s) wr
          rw [decide_eq_true (show stOk (s : Int) (x.st s) from ⟨⟨by omega, by omega⟩, bs⟩)] at hso
          obtain ⟨t0, t1⟩ := hM.rb.at_ hs2
          have hms := Lib.hid (show 32 - ((s : Int) + 1).toNat < 32 - (s : Int).toNat by omega)
          have F := Lib.hid (show Rb2Rel w r j bm x (.int .i64 ((s : Int) + 1)) (wr.setCell ⟨r, 2 + s, none⟩ (.int .i64 (x.st s))) from by
            have hS2 : Chg (· = r) wr (wr.setCell ⟨r, 2 + s, none⟩ (.int .i64 (x.st s))) := Chg.set (S := (· = r)) (Chg.refl _ wr) (p := ⟨r, 2 + s, none⟩) (.inl rfl) _
            obtain ⟨M, hMa, hMo⟩ := hM.mp
            have hb := hM.rb.set hs2 (x.st s)
            have e : (fun q => if q = s then x.st s else if q < s then x.st q else (0 : Int)) = (fun q => if q < s + 1 then x.st q else 0) := funext fun q => by
              by_cases c1 : q = s
              · subst c1; rw [if_pos rfl, if_pos (by omega)]
              · rw [if_neg c1]
                by_cases c2 : q < s
                · rw [if_pos c2, if_pos (by omega)]
                · rw [if_neg c2, if_neg (by omega)]
            have hb' : RB (wr.setCell ⟨r, 2 + s, none⟩ (.int .i64 (x.st s))) r j bm (fun q => if q = s then x.st s else if q < s then x.st q else (0 : Int)) := hb
            rw [e] at hb'
            exact ⟨s + 1, hs2, rfl, ⟨hb', M, hMa.chg hS2 (fun e => hM.ne e.symm), hMo⟩, hC.trans (hS2.mono fun i _ e => .inl e) (fun _ _ e => e)⟩)
          clear hM hC hx0 hst hs hs2 hfar
          generalize x.st s = sv at *
          go_wp2_with fail
          refine hso.mono ?_
          rintro e w5 ⟨rfl, rfl⟩
          clear hso
          go_wp2_with fail
          exact ⟨F.out, hms.out⟩
    · have e0 : decide ((k : Int) < 1024) = true := decide_eq_true (by omega)
      have e1 : decide (k < 1024) = true := decide_eq_true (by omega)
      have i1 : (k : Int) < 1024 := by omega
      have bq : (k : Int) / 8 < 160 := by omega
      have bq2 : k / 8 < 160 := by omega
      obtain ⟨ad', hA, hx0⟩ := HA.out.1.at_ (k / 8) (by rw [base_len]; omega)
      obtain rfl := Option.some.inj hA
      rw [base_bits x (by omega)] at hx0
      have hfar := HA.out.2.1 ad rfl
      have x0 := hC.cell hx0 (fun e => by
        rw [add_block'] at e
        exact e.elim (fun e => hfar.1 e) (fun e => hfar.2 e))
      have bv := byte_lt x.bad (k / 8)
      have db := bit_at x.bad k
      generalize byteN x.bad (k / 8) = v at *
      have hms := Lib.hid (show 1024 - ((k : Int) + 1).toNat < 1024 - (k : Int).toNat by omega)
      cases hbk : x.bad k with
      | false =>
        rw [hbk] at db
        have F := Lib.hid (show RbRel w r j bm RSt.zero x.bad (.int .i64 ((k : Int) + 1)) wr from ⟨k + 1, hk2, rfl, by
          have e : (fun f => decide (f < k + 1) && x.bad f) = (fun f => decide (f < k) && x.bad f) := funext fun f => by
            by_cases c1 : f = k
            · subst c1; rw [hbk, Bool.and_false, Bool.and_false]
            · rw [show decide (f < k + 1) = decide (f < k) from decide_eq_decide.mpr (by omega)]
          rw [e]; exact hM, hC⟩)
        clear hM hC hx0 hk hk2 hfar
        go_wp2_with fail
        exact ⟨F.out, hms.out⟩
      | true =>
        rw [hbk] at db
        obtain ⟨M, hMa, hMo⟩ := hM.mp
        obtain ⟨c0, _, hc0, hlk⟩ := count_at hMa hMo hk2
        have c00 : c0 = 0 := by
          have h1 : ¬ (1 ≤ c0) := fun e => by
            have := hc0.mp e
            have e2 : (decide (k < k) && x.bad k) = true := this
            simp at e2
          omega
        subst c00
        have hlk' : (Instr.lookup 51 (.map (some bm)) (.int .i64 (k : Int)) false).run Try.prog wr = .ok (.int .i64 0) wr := hlk
        obtain ⟨_, z1⟩ := hM.rb.two
        have FI := Lib.hid (show ∀ w6, MapAt w6 bm (updM M (k : Int) (.int .i64 1)) → Chg (· = bm) wr w6 → RbRel w r j bm RSt.zero x.bad (.int .i64 ((k : Int) + 1)) w6 from fun w6 hM6 hC6 => ⟨k + 1, hk2, rfl, by
          have e : (fun f => decide (f < k + 1) && x.bad f) = (fun f => (decide (f < k) && x.bad f) || decide (f = k)) := funext fun f => by
            by_cases c1 : f = k
            · subst c1; rw [hbk]; simp
            · rw [show decide (f < k + 1) = decide (f < k) from decide_eq_decide.mpr (by omega), decide_eq_false c1, Bool.or_false]
          rw [e]
          exact ⟨hM.rb.chg hC6 (fun e => hM.ne e), _, hM6, hMo.put (c := 1) hk2 (by decide) (by decide) (by decide)⟩, hC.trans (hC6.mono fun i _ e => .inr e) (fun _ _ e => e)⟩)
        have HMa := Lib.hid hMa
        clear hM hC hx0 hk hk2 hfar hMa hMo hlk hc0
        go_wp2_with (first | (with_reducible refine lookup_at rfl 51 _ _ false rfl (.map (some bm)) (.int .i64 (k : Int)) _ rfl rfl hlk' ?_) | (refine update_at rfl 51 3 3 _ _ _ rfl Try.underlying51 Try.underlying3 bm _ (k : Int) (.int .i64 1) rfl rfl rfl HMa.out ?_; intro w6 hM6 hC6))
        exact ⟨FI.out _ hM6 hC6, hms.out⟩
theorem rebuilt_nil {w : World} (r : Nat) (A : Option Addr) (c : Nat) : Calls Try.prog 18 #[.pointer (some ⟨r, 0, none⟩), .slice A 0 c] w fun e w' => e = .returned (.bool true) ∧ w = w' := by
  go_enter Try.func18, Try.ntmps18
  go_wp2_with fail
  go_ret
  exact ⟨rfl, rfl⟩
end Go.Proofs.YtolojkfpokmdkaaRR.Reg
