/- The document's pool: Offline, Alloc. -/
import Derived.Test.YtlhlnkfmmklkbaaPoolU
namespace Go.Proofs.Ytlhlnkfmmklkbaa.Pool
open Go.RowKit Go.Proofs.Ytlhlnkfmmklkbaa.Hp Go.Proofs.Ytlhlnkfmmklkbaa.Runs
set_option linter.unusedVariables false
set_option linter.unusedSimpArgs false
theorem roff_bad (v : Nat) (s : Int) (w : World) (h : ¬ (0 ≤ s ∧ s < 32)) :
    Calls Try.prog 51 #[.pointer (some ⟨v, 0, none⟩), .int .i64 s] w fun e w' => e = .returned (.int .i64 1) ∧ w = w' := by
  by_cases c1 : s < 0
  · clear h
    go_enter Try.func51, Try.ntmps51
    go_wp2_with fail
    go_ret
    exact ⟨rfl, rfl⟩
  · have c2 : 31 < s := by omega
    clear h
    go_enter Try.func51, Try.ntmps51
    go_wp2_with fail
    go_ret
    exact ⟨rfl, rfl⟩
theorem roff_none (v : Nat) (S : PS) (s : Nat) (hs : s < 32) (w : World) (h : RR w v S) (hn : S.Z s = 0) :
    Calls Try.prog 51 #[.pointer (some ⟨v, 0, none⟩), .int .i64 s] w fun e w' => e = .returned (.int .i64 2) ∧ w = w' := by
  have hc := h.zone s hs
  rw [hn] at hc
  clear h hn
  go_enter Try.func51, Try.ntmps51
  go_wp2_with fail
  go_ret
  exact ⟨rfl, rfl⟩
def RFree (S : PS) (a : Nat) (i : Value) : Prop := ∃ k : Nat, k ≤ 32 ∧ i = .int .i64 ((a + k : Nat) : Int) ∧ ∀ j, j < k → S.U (a + j) = 1 ∨ S.U (a + j) = 6
def ROff (w : World) (v : Nat) (S : PS) (a : Nat) (i : Value) (wr : World) : Prop := ∃ k : Nat, k ≤ 32 ∧ i = .int .i64 ((a + k : Nat) : Int) ∧ RR wr v { S with U := offU S.U a k } ∧ Chg (· = v) w wr
def ROffPost (w : World) (v : Nat) (S : PS) (s : Nat) (e : Ending) (w' : World) : Prop :=
  (¬ S.idle s ∧ e = .returned (.int .i64 5) ∧ w = w') ∨ (S.idle s ∧ AnsR w w v (.int .i64 0) ⟨offU S.U (s * 32) 32, upd S.Z s 0, updB S.I s false⟩ e w')
set_option maxRecDepth 100000 in
set_option maxHeartbeats 2000000 in
theorem roff_on (v : Nat) (S : PS) (s : Nat) (hs : s < 32) (w : World) (h : RR w v S) (hn : S.Z s ≠ 0) :
    Calls Try.prog 51 #[.pointer (some ⟨v, 0, none⟩), .int .i64 s] w (ROffPost w v S s) := by
  have hc := h.zone s hs
  have hne : (S.Z s == 0) = false := beq_eq_false_iff_ne.mpr hn
  have d1 : decide ((s : Int) < 0) = false := decide_eq_false (by omega)
  have d2 : decide ((31 : Int) < s) = false := decide_eq_false (by omega)
  have H := Lib.hid h
  have ha : s * 32 + 32 ≤ 1024 := by omega
  clear h hn
  generalize S.Z s = z at hc hne
  go_enter Try.func51, Try.ntmps51
  go_wp2_with fail
  rw [show (32 : Int) * s = ((s * 32 : Nat) : Int) from by omega]
  clear hc
  go_loop [5] (fun i => RFree S (s * 32) i) (fun i => ((s : Int) * 32 + 32 - intOf i).toNat)
  case atStart => exact ⟨0, by omega, rfl, fun j hj => by omega⟩
  case round =>
    obtain ⟨k, hk, rfl, hno⟩ := hrel
    by_cases hlt : k < 32
    · have hc := H.out.use (s * 32 + k) (by omega)
      have nx : (S.U (s * 32 + k) = 1 ∨ S.U (s * 32 + k) = 6) → RFree S (s * 32) (.int .i64 (((s * 32 + k : Nat) : Int) + 1)) := by
        intro h1
        refine ⟨k + 1, by omega, rfl, fun j hj => ?_⟩
        by_cases e : j = k
        · subst e; exact h1
        · exact hno j (by omega)
      have ex : ¬ (S.U (s * 32 + k) = 1 ∨ S.U (s * 32 + k) = 6) → ROffPost w v S s (.returned (.int .i64 5)) w := fun h1 => .inl ⟨fun h2 => h1 ((idle_iff S s).mp h2 k hlt), rfl, rfl⟩
      have q1 : s * 32 + k < 32 * s + 32 := by omega
      by_cases e1 : S.U (s * 32 + k) = 1
      · have NX := Lib.hid (nx (.inl e1))
        rw [e1] at hc
        clear nx ex hno e1
        generalize hae : s * 32 + k = a at *
        have m1 : ((s : Int) * 32 + 32 - (a + 1)).toNat < ((s : Int) * 32 + 32 - a).toNat := by omega
        clear hae
        go_wp2_with fail
        exact ⟨NX.out, by simpa [intOf] using m1⟩
      · have f1 : (S.U (s * 32 + k) != 1) = true := by rw [bne_iff_ne]; exact e1
        by_cases e6 : S.U (s * 32 + k) = 6
        · have NX := Lib.hid (nx (.inr e6))
          rw [e6] at hc
          clear nx ex hno e1 e6 f1
          generalize hae : s * 32 + k = a at *
          have m1 : ((s : Int) * 32 + 32 - (a + 1)).toNat < ((s : Int) * 32 + 32 - a).toNat := by omega
          clear hae
          go_wp2_with fail
          exact ⟨NX.out, by simpa [intOf] using m1⟩
        · have f6 : (S.U (s * 32 + k) != 6) = true := by rw [bne_iff_ne]; exact e6
          have EX := Lib.hid (ex (fun x => x.elim e1 e6))
          clear nx ex hno e1 e6
          generalize S.U (s * 32 + k) = u at *
          generalize s * 32 + k = a at *
          go_wp2_with fail
          go_ret
          exact EX.out
    · obtain rfl : k = 32 := by omega
      have hall := Lib.hid hno
      clear hno
      go_wp2_with fail
      rw [show (32 : Int) * s = ((s * 32 : Nat) : Int) from by omega]
      go_loopw [6] (fun i wr => ROff w v S (s * 32) i wr) (fun i wr => ((s : Int) * 32 + 32 - intOf i).toNat)
      case atStart => exact ⟨0, by omega, rfl, by rw [offU_zero]; exact H.out, Chg.refl _ _⟩
      case round =>
        obtain ⟨k, hk, rfl, hR, hC⟩ := hrel
        by_cases hlt : k < 32
        · have hc := hR.use (s * 32 + k) (by omega)
          have hf := hR.frz (s * 32 + k)
          rw [show ({ S with U := offU S.U (s * 32) k } : PS).U (s * 32 + k) = S.U (s * 32 + k) from offU_at _ _ _] at hc
          have q1 : s * 32 + k < 32 * s + 32 := by omega
          rcases hall.out k hlt with e1 | e6
          · have nx : ROff w v S (s * 32) (.int .i64 (((s * 32 + k : Nat) : Int) + 1)) (wr.setCell ⟨v, s * 32 + k, none⟩ (.int .i64 0)) := by
              refine ⟨k + 1, by omega, rfl, ?_, hC.set (.inl rfl) _⟩
              have h2 := hR.setUse (s * 32 + k) (by omega) 0
              have e := offU_succ S.U (s * 32) k (by rw [e1]; decide)
              rw [← e]; exact h2
            have NX := Lib.hid nx
            rw [e1] at hc
            clear nx hR hC e1
            generalize hae : s * 32 + k = a at *
            have m1 : ((s : Int) * 32 + 32 - (a + 1)).toNat < ((s : Int) * 32 + 32 - a).toNat := by omega
            clear hae
            go_wp2_with fail
            exact ⟨NX.out, by simpa [intOf] using m1⟩
          · have nx : ROff w v S (s * 32) (.int .i64 (((s * 32 + k : Nat) : Int) + 1)) wr := by
              refine ⟨k + 1, by omega, rfl, ?_, hC⟩
              rw [← offU_bad S.U (s * 32) k e6]; exact hR
            have NX := Lib.hid nx
            rw [e6] at hc
            clear nx hR hC e6 hf
            generalize hae : s * 32 + k = a at *
            have m1 : ((s : Int) * 32 + 32 - (a + 1)).toNat < ((s : Int) * 32 + 32 - a).toNat := by omega
            clear hae
            go_wp2_with fail
            exact ⟨NX.out, by simpa [intOf] using m1⟩
        · obtain rfl : k = 32 := by omega
          have hz := hR.zone s hs
          have hi := hR.iso s hs
          have hf := hR.frz
          have h2 := ((hR.setZone s hs 0).setIso s hs false).chg ((Chg.refl NoB _).drew) (fun x => x)
          have C2 := (Chg.set (S := (· = v)) (Chg.set (S := (· = v)) hC (p := ⟨v, 1024 + s, none⟩) (.inl rfl) (.int .i64 0)) (p := ⟨v, 1056 + s, none⟩) (.inl rfl) (.bool false)).drew
          have post : ROffPost w v S s (.returned (.int .i64 0)) (((wr.setCell ⟨v, 1024 + s, none⟩ (.int .i64 0)).setCell ⟨v, 1056 + s, none⟩ (.bool false)).drew) :=
            .inr ⟨(idle_iff S s).mpr hall.out, rfl, h2, C2⟩
          have PO := Lib.hid post
          clear post h2 C2 hR hC hall H
          go_wp2_with fail
          go_region
          go_wp2_with fail
          go_ret
          exact PO.out
end Go.Proofs.Ytlhlnkfmmklkbaa.Pool
