/- The document's pool: its data, Online. -/
import Derived.Test.YtlhlnkfmmklkbaaPoolT
import Derived.RegionTactic
import Derived.ChangeAlike
namespace Go.Proofs.Ytlhlnkfmmklkbaa.Pool
open Go.RowKit Go.Proofs.Ytlhlnkfmmklkbaa.Hp Go.Proofs.Ytlhlnkfmmklkbaa.Runs
set_option linter.unusedVariables false
set_option linter.unusedSimpArgs false
/-- the document's pool at block v -/
def RR (w : World) (v : Nat) (S : PS) : Prop :=
  ∃ C, Blk w v C 58 ∧ C.size = 1088 ∧ (∀ f, f < 1024 → C[f]? = some (.int .i64 (S.U f))) ∧ (∀ s, s < 32 → C[1024 + s]? = some (.int .i64 (S.Z s))) ∧ ∀ s, s < 32 → C[1056 + s]? = some (.bool (S.I s))
theorem RR.chg {Q : Nat → Prop} {w w' : World} {v : Nat} {S : PS} (h : RR w v S) (hc : Chg Q w w') (h1 : ¬ Q v) : RR w' v S := by
  obtain ⟨C, h0, hr⟩ := h
  exact ⟨C, hc.blk h0 h1, hr⟩
theorem RR.use {w : World} {v : Nat} {S : PS} (h : RR w v S) (f : Nat) (hf : f < 1024) : w.cell? ⟨v, f, none⟩ = some (.int .i64 (S.U f)) := by
  obtain ⟨C, h0, h1, h2, h3, h4⟩ := h
  rw [bcell h0]; exact h2 f hf
theorem RR.zone {w : World} {v : Nat} {S : PS} (h : RR w v S) (s : Nat) (hs : s < 32) : w.cell? ⟨v, 1024 + s, none⟩ = some (.int .i64 (S.Z s)) := by
  obtain ⟨C, h0, h1, h2, h3, h4⟩ := h
  rw [bcell h0]; exact h3 s hs
theorem RR.iso {w : World} {v : Nat} {S : PS} (h : RR w v S) (s : Nat) (hs : s < 32) : w.cell? ⟨v, 1056 + s, none⟩ = some (.bool (S.I s)) := by
  obtain ⟨C, h0, h1, h2, h3, h4⟩ := h
  rw [bcell h0]; exact h4 s hs
theorem RR.frz {w : World} {v : Nat} {S : PS} (h : RR w v S) (i : Nat) : w.frozen? ⟨v, i, none⟩ = false := by
  obtain ⟨C, h0, _⟩ := h
  exact bfroz h0 i
theorem RR.setUse {w : World} {v : Nat} {S : PS} (h : RR w v S) (f : Nat) (hf : f < 1024) (u : Int) : RR (w.setCell ⟨v, f, none⟩ (.int .i64 u)) v { S with U := upd S.U f u } := by
  obtain ⟨C, h0, hz, h1, h2, h3⟩ := h
  refine ⟨_, bset h0 _ _, by simpa using hz, fun g hg => ?_, fun s hs => ?_, fun s hs => ?_⟩
  · by_cases e : f = g
    · subst e
      rw [Array.getElem?_setIfInBounds_self_of_lt (by omega)]
      simp [upd]
    · rw [Array.getElem?_setIfInBounds_ne e, h1 g hg]
      show _ = some (Value.int .i64 (upd S.U f u g))
      unfold upd
      rw [if_neg (fun x => e x.symm)]
  · rw [Array.getElem?_setIfInBounds_ne (by omega)]; exact h2 s hs
  · rw [Array.getElem?_setIfInBounds_ne (by omega)]; exact h3 s hs
theorem RR.setZone {w : World} {v : Nat} {S : PS} (h : RR w v S) (t : Nat) (ht : t < 32) (z : Int) : RR (w.setCell ⟨v, 1024 + t, none⟩ (.int .i64 z)) v { S with Z := upd S.Z t z } := by
  obtain ⟨C, h0, hz, h1, h2, h3⟩ := h
  refine ⟨_, bset h0 _ _, by simpa using hz, fun g hg => ?_, fun s hs => ?_, fun s hs => ?_⟩
  · rw [Array.getElem?_setIfInBounds_ne (by omega)]; exact h1 g hg
  · by_cases e : t = s
    · subst e
      rw [Array.getElem?_setIfInBounds_self_of_lt (by omega)]
      simp [upd]
    · rw [Array.getElem?_setIfInBounds_ne (by omega), h2 s hs]
      show _ = some (Value.int .i64 (upd S.Z t z s))
      unfold upd
      rw [if_neg (fun x => e x.symm)]
  · rw [Array.getElem?_setIfInBounds_ne (by omega)]; exact h3 s hs
theorem RR.setIso {w : World} {v : Nat} {S : PS} (h : RR w v S) (t : Nat) (ht : t < 32) (b : Bool) : RR (w.setCell ⟨v, 1056 + t, none⟩ (.bool b)) v { S with I := updB S.I t b } := by
  obtain ⟨C, h0, hz, h1, h2, h3⟩ := h
  refine ⟨_, bset h0 _ _, by simpa using hz, fun g hg => ?_, fun s hs => ?_, fun s hs => ?_⟩
  · rw [Array.getElem?_setIfInBounds_ne (by omega)]; exact h1 g hg
  · rw [Array.getElem?_setIfInBounds_ne (by omega)]; exact h2 s hs
  · by_cases e : t = s
    · subst e
      rw [Array.getElem?_setIfInBounds_self_of_lt (by omega)]
      simp [updB]
    · rw [Array.getElem?_setIfInBounds_ne (by omega), h3 s hs]
      show _ = some (Value.bool (updB S.I t b s))
      unfold updB
      rw [if_neg (fun x => e x.symm)]
theorem RR.lt {w : World} {v : Nat} {S : PS} (h : RR w v S) : v < w.heap.size := by
  obtain ⟨C, h0, _⟩ := h
  exact blt h0
/-- The document's pool that a call made, and what memory is besides. -/
structure RL (w0 w : World) (v : Nat) (S : PS) : Prop where
  at_ : RR w v S
  ch : Chg NoB w0 w
  lv : w0.heap.size ≤ v
def AnsR (w0 w : World) (v : Nat) (x : Value) (S : PS) (e : Ending) (w' : World) : Prop := e = .returned x ∧ RR w' v S ∧ Chg (· = v) w w'
theorem onU_more (U : Nat → Int) (a : Nat) (bad : List Int) (x : Int) : (if (a : Nat) ≤ x ∧ x < (a + 32 : Nat) then upd (onU U a bad 32) x.toNat 6 else onU U a bad 32) = onU U a (bad ++ [x]) 32 := by
  funext f
  by_cases cc : (a : Nat) ≤ x ∧ x < (a + 32 : Nat)
  · rw [if_pos cc]
    unfold upd onU
    by_cases e : f = x.toNat
    · subst e
      rw [if_pos rfl, if_pos (by omega), if_pos (.inr (by simp; omega))]
    · rw [if_neg e]
      by_cases c : a ≤ f ∧ f < a + 32
      · rw [if_pos c, if_pos c]
        have : ((f : Int) ∈ bad ++ [x]) ↔ (f : Int) ∈ bad := by
          rw [List.mem_append]
          exact ⟨fun h => h.elim id (fun y => absurd (by simpa using y) (fun z : (f : Int) = x => e (by omega))), .inl⟩
        by_cases d : U f = 6 ∨ (f : Int) ∈ bad
        · rw [if_pos d, if_pos (d.imp id this.mpr)]
        · rw [if_neg d, if_neg (fun y => d (y.imp id this.mp))]
      · rw [if_neg c, if_neg c]
  · rw [if_neg cc]
    unfold onU
    by_cases c : a ≤ f ∧ f < a + 32
    · rw [if_pos c, if_pos c]
      have : ((f : Int) ∈ bad ++ [x]) ↔ (f : Int) ∈ bad := by
        rw [List.mem_append]
        exact ⟨fun h => h.elim id (fun y => absurd (by simpa using y) (fun z : (f : Int) = x => cc (by omega))), .inl⟩
      by_cases d : U f = 6 ∨ (f : Int) ∈ bad
      · rw [if_pos d, if_pos (d.imp id this.mpr)]
      · rw [if_neg d, if_neg (fun y => d (y.imp id this.mp))]
    · rw [if_neg c, if_neg c]
theorem onU_six (U : Nat → Int) (a k : Nat) (h : U (a + k) = 6) : onU U a [] k = onU U a [] (k + 1) := by
  funext f
  unfold onU
  by_cases e : f = a + k
  · subst e
    rw [if_neg (by omega), if_pos (by omega), if_pos (.inl h), h]
  · by_cases c : a ≤ f ∧ f < a + k
    · have c' : a ≤ f ∧ f < a + (k + 1) := by omega
      rw [if_pos c, if_pos c']
    · have c' : ¬ (a ≤ f ∧ f < a + (k + 1)) := by omega
      rw [if_neg c, if_neg c']
def ROnA (w : World) (v : Nat) (S : PS) (a : Nat) (i : Value) (wr : World) : Prop := ∃ k : Nat, k ≤ 32 ∧ i = .int .i64 ((a + k : Nat) : Int) ∧ RR wr v { S with U := onU S.U a [] k } ∧ Chg (· = v) w wr
def ROnB (w : World) (v : Nat) (S : PS) (a : Nat) (bad : List Int) (i : Value) (wr : World) : Prop := ∃ k : Nat, k ≤ bad.length ∧ i = .int .i64 k ∧ RR wr v { S with U := onU S.U a (bad.take k) 32 } ∧ Chg (· = v) w wr
theorem ron_bad (v : Nat) (s z : Int) (V : Value) (w : World) (h : ¬ ((0 ≤ s ∧ s < 32) ∧ (z = 2 ∨ z = 3))) :
    Calls Try.prog 50 #[.pointer (some ⟨v, 0, none⟩), .int .i64 s, .int .i64 z, V] w fun e w' => e = .returned (.int .i64 1) ∧ w = w' := by
  by_cases c1 : s < 0
  · clear h
    go_enter Try.func50, Try.ntmps50
    go_wp2_with fail
    go_ret
    exact ⟨rfl, rfl⟩
  by_cases c2 : 31 < s
  · clear h
    go_enter Try.func50, Try.ntmps50
    go_wp2_with fail
    go_ret
    exact ⟨rfl, rfl⟩
  have z2 : (z != 2) = true := by rw [bne_iff_ne]; exact fun e => h ⟨⟨by omega, by omega⟩, .inl e⟩
  have z3 : (z != 3) = true := by rw [bne_iff_ne]; exact fun e => h ⟨⟨by omega, by omega⟩, .inr e⟩
  clear h
  go_enter Try.func50, Try.ntmps50
  go_wp2_with fail
  go_ret
  exact ⟨rfl, rfl⟩
theorem ron_there (v : Nat) (S : PS) (s : Nat) (hs : s < 32) (z : Int) (hz : z = 2 ∨ z = 3) (V : Value) (w : World) (h : RR w v S) (hn : S.Z s ≠ 0) :
    Calls Try.prog 50 #[.pointer (some ⟨v, 0, none⟩), .int .i64 s, .int .i64 z, V] w fun e w' => e = .returned (.int .i64 3) ∧ w = w' := by
  have hc := h.zone s hs
  have hne : (S.Z s != 0) = true := by rw [bne_iff_ne]; exact hn
  have hzo' : (z != 2) = false ∨ ((z != 2) = true ∧ (z != 3) = false) := by rcases hz with rfl | rfl <;> decide
  clear h hn hz
  generalize S.Z s = y at *
  rcases hzo' with z2 | ⟨z2, z3⟩
  all_goals
    go_enter Try.func50, Try.ntmps50
    go_wp2_with fail
    go_ret
    exact ⟨rfl, rfl⟩
set_option maxRecDepth 100000 in
set_option maxHeartbeats 2000000 in
theorem ron_ok (v : Nat) (S : PS) (s : Nat) (hs : s < 32) (z : Int) (hz : z = 2 ∨ z = 3) (A : Option Addr) (c : Nat) (bad : List Int) (w : World) (h : RR w v S) (hn : S.Z s = 0) (hF : Rd w .i64 A bad) (ho : 0 < bad.length → Off A (· = v)) :
    Calls Try.prog 50 #[.pointer (some ⟨v, 0, none⟩), .int .i64 s, .int .i64 z, .slice A bad.length c] w (AnsR w w v (.int .i64 0) ⟨onU S.U (s * 32) bad 32, upd S.Z s z, updB S.I s false⟩) := by
  have hlen := hF.1
  have hc := h.zone s hs
  rw [hn] at hc
  have hi := h.iso s hs
  have hf := h.frz
  have h2 := (h.setZone s hs z).setIso s hs false
  have C2 : Chg (· = v) w ((w.setCell ⟨v, 1024 + s, none⟩ (.int .i64 z)).setCell ⟨v, 1056 + s, none⟩ (.bool false)) :=
    Chg.set (S := (· = v)) (Chg.set (S := (· = v)) (Chg.refl _ w) (p := ⟨v, 1024 + s, none⟩) (.inl rfl) _) (p := ⟨v, 1056 + s, none⟩) (.inl rfl) _
  have hzo' : (z != 2) = false ∨ ((z != 2) = true ∧ (z != 3) = false) := by rcases hz with rfl | rfl <;> decide
  have d1 : decide ((s : Int) < 0) = false := decide_eq_false (by omega)
  have d2 : decide ((31 : Int) < s) = false := decide_eq_false (by omega)
  have h3 := h2.chg ((Chg.refl NoB _).drew) (fun x => x)
  have C3 := C2.drew
  have HF := Lib.hid (And.intro hF ho)
  have HC := Lib.hid (And.intro h3 C3)
  clear h hz hn hF ho h2 C2 h3 C3
  have ha : s * 32 + 32 ≤ 1024 := by omega
  rcases hzo' with z2 | ⟨z2, z3⟩
  all_goals
    go_enter Try.func50, Try.ntmps50
    go_wp2_with fail
    go_region
    generalize ((w.setCell ⟨v, 1024 + s, none⟩ (.int .i64 z)).setCell ⟨v, 1056 + s, none⟩ (.bool false)).drew = W at *
    clear hc hi hf
    go_wp2_with fail
    rw [show (32 : Int) * s = ((s * 32 : Nat) : Int) from by omega]
    generalize hS1 : ({ S with Z := upd S.Z s z, I := updB S.I s false } : PS) = S1 at *
    have hSU : S1.U = S.U := by rw [← hS1]
    have HS := Lib.hid (And.intro hS1 hSU)
    clear hS1 hSU
    go_loopw [9] (fun i wr => ROnA W v S1 (s * 32) i wr) (fun i wr => ((s : Int) * 32 + 32 - intOf i).toNat)
    case atStart => exact ⟨0, by omega, rfl, by rw [onU_zero]; exact HC.out.1, Chg.refl _ _⟩
    case round =>
      obtain ⟨k, hk, rfl, hR, hC⟩ := hrel
      by_cases hlt : k < 32
      · have hc := hR.use (s * 32 + k) (by omega)
        have hf := hR.frz (s * 32 + k)
        rw [show ({ S1 with U := onU S1.U (s * 32) [] k } : PS).U (s * 32 + k) = S1.U (s * 32 + k) from onU_at _ _ _ _] at hc
        by_cases e6 : S1.U (s * 32 + k) = 6
        · have nx : ROnA W v S1 (s * 32) (.int .i64 (((s * 32 + k : Nat) : Int) + 1)) wr := by
            refine ⟨k + 1, by omega, rfl, ?_, hC⟩
            rw [← onU_six S1.U (s * 32) k e6]; exact hR
          have NX := Lib.hid nx
          rw [e6] at hc
          clear nx hR hC e6 hf
          generalize hae : s * 32 = a at *
          have q1 : a ≤ 32 * s := by omega
          have q2 : 32 * s ≤ a := by omega
          clear hae
          go_wp2_with fail
          exact ⟨NX.out, by simp [intOf]; omega⟩
        · have nx : ROnA W v S1 (s * 32) (.int .i64 (((s * 32 + k : Nat) : Int) + 1)) (wr.setCell ⟨v, s * 32 + k, none⟩ (.int .i64 1)) := by
            refine ⟨k + 1, by omega, rfl, ?_, hC.set (.inl rfl) _⟩
            have := hR.setUse (s * 32 + k) (by omega) 1
            have e : upd (onU S1.U (s * 32) [] k) (s * 32 + k) 1 = onU S1.U (s * 32) [] (k + 1) := onU_succ _ _ _ _ _ (by rw [if_neg (by simp [e6])])
            rw [← e]; exact this
          have NX := Lib.hid nx
          have hb : (S1.U (s * 32 + k) != 6) = true := by rw [bne_iff_ne]; exact e6
          clear nx hR hC e6
          generalize S1.U (s * 32 + k) = u at *
          generalize hae : s * 32 = a at *
          have q1 : a ≤ 32 * s := by omega
          have q2 : 32 * s ≤ a := by omega
          clear hae
          go_wp2_with fail
          exact ⟨NX.out, by simp [intOf]; omega⟩
      · obtain rfl : k = 32 := by omega
        go_wp2_with fail
        go_loopw [10] (fun i wr => ROnB W v S1 (s * 32) bad i wr) (fun i wr => bad.length - (intOf i).toNat)
        case atStart => exact ⟨0, by omega, rfl, hR, hC⟩
        case round =>
          clear hR hC
          obtain ⟨k, hk, rfl, hR, hC⟩ := hrel
          by_cases hlt : k < bad.length
          · obtain ⟨ad, rfl, hcell⟩ := ((HF.out.1.chg (HC.out.2) HF.out.2).chg hC HF.out.2).at_ k hlt
            have hf := hR.frz
            have nx : ∀ w', (∀ U', (s * 32 : Nat) ≤ bad.getD k 0 ∧ bad.getD k 0 < (s * 32 + 32 : Nat) → U' = upd (onU S1.U (s * 32) (bad.take k) 32) (bad.getD k 0).toNat 6 → RR w' v { S1 with U := U' }) → (¬ ((s * 32 : Nat) ≤ bad.getD k 0 ∧ bad.getD k 0 < (s * 32 + 32 : Nat)) → RR w' v { S1 with U := onU S1.U (s * 32) (bad.take k) 32 }) → Chg (· = v) W w' → ROnB W v S1 (s * 32) bad (.int .i64 ((k : Int) + 1)) w' := by
              intro w' g1 g2 g3
              refine ⟨k + 1, by omega, rfl, ?_, g3⟩
              have hnx : bad.take (k + 1) = bad.take k ++ [bad.getD k 0] := take_succ_getD bad k hlt
              rw [hnx, ← onU_more S1.U (s * 32) (bad.take k) (bad.getD k 0)]
              by_cases cc : (s * 32 : Nat) ≤ bad.getD k 0 ∧ bad.getD k 0 < (s * 32 + 32 : Nat)
              · rw [if_pos cc]; exact g1 _ cc rfl
              · rw [if_neg cc]; exact g2 cc
            have st : ∀ (x : Int) (_ : (s * 32 : Nat) ≤ x ∧ x < (s * 32 + 32 : Nat)), RR ((wr.setCell ⟨v, x.toNat, none⟩ (.int .i64 6)).drew) v { S1 with U := upd (onU S1.U (s * 32) (bad.take k) 32) x.toNat 6 } := fun x hx =>
              (hR.setUse x.toNat (by omega) 6).chg ((Chg.refl NoB _).drew) (fun x => x)
            have sc : ∀ (x : Int), Chg (· = v) W ((wr.setCell ⟨v, x.toNat, none⟩ (.int .i64 6)).drew) := fun x => (hC.set (p := ⟨v, x.toNat, none⟩) (.inl rfl) _).drew
            have hco : ∀ (x : Int), (s * 32 : Nat) ≤ x ∧ x < (s * 32 + 32 : Nat) → wr.cell? ⟨v, x.toNat, none⟩ = some (.int .i64 (onU S1.U (s * 32) (bad.take k) 32 x.toNat)) := fun x hx => hR.use x.toNat (by omega)
            generalize bad.getD k 0 = x at *
            by_cases cc : (s * 32 : Nat) ≤ x ∧ x < (s * 32 + 32 : Nat)
            · have N := nx _ (fun U' _ e => by rw [e]; exact st x cc) (fun h => absurd cc h) (sc x)
              have hcx := hco x cc
              have hfx := hf x.toNat
              have NX := Lib.hid N
              have x1 : 32 * (s : Int) ≤ x := by omega
              have x2 : x < 32 * (s : Int) + 32 := by omega
              have x3 : 0 ≤ x := by omega
              have x4 : x < 1024 := by omega
              clear N st sc nx hR hC hf hco cc
              generalize onU S1.U (s * 32) (bad.take k) 32 x.toNat = old at *
              go_wp2_with fail
              go_region
              go_wp2_with fail
              exact ⟨NX.out, by simp [intOf]; omega⟩
            · have N := nx wr (fun U' h _ => absurd h cc) (fun _ => hR) hC
              have NX := Lib.hid N
              clear N st sc nx hR hC hf hco
              by_cases x1 : 32 * (s : Int) ≤ x
              · have x2 : 32 * (s : Int) + 32 ≤ x := by omega
                clear cc
                go_wp2_with fail
                exact ⟨NX.out, by simp [intOf]; omega⟩
              · clear cc
                go_wp2_with fail
                exact ⟨NX.out, by simp [intOf]; omega⟩
          · obtain rfl : k = bad.length := by omega
            rw [List.take_length] at hR
            have post : AnsR w w v (.int .i64 0) ⟨onU S.U (s * 32) bad 32, upd S.Z s z, updB S.I s false⟩ (.returned (.int .i64 0)) wr := by
              refine ⟨rfl, ?_, HC.out.2.trans hC (fun i _ hh => hh)⟩
              rw [← HS.out.1] at hR
              exact hR
            clear HC HS hR hC HF
            go_wp2_with fail
            go_ret
            exact post
end Go.Proofs.Ytlhlnkfmmklkbaa.Pool
