/- The statements on memory of frames (fourth part): RamOwn. -/
import Derived.Test.YtilameppdnmgdaaRamF
namespace Go.Proofs.Ytilameppdnmgdaa.Ram
open Go.RowKit Go.Proofs.Ytilameppdnmgdaa.Hp
set_option linter.unusedVariables false
set_option linter.unusedSimpArgs false
/-- A slice of bytes of the call's own, whatever they are. -/
def OwnB (w : World) (base : Nat) (v : Value) (n : Nat) : Prop :=
  (v = .slice none 0 0 ∧ n = 0) ∨ ∃ g cap C, v = .slice (some ⟨g, 0, none⟩) n cap ∧ base ≤ g ∧ Blk w g C 5 ∧ ∀ j, j < n → ∃ x, C[j]? = some (.int .u8 x)
theorem OwnB.of {w : World} {base n : Nat} {v : Value} {l : List Int} (h : w.ownsRow base 5 1 v n (l.map (Value.int .u8))) : OwnB w base v n := by
  have hl : l.length = n := by have := h.1; simpa using this
  rcases h.2 with ⟨rfl, rfl⟩ | ⟨g, cap, cur, rfl, hb, hh, h1, h2, h3, h4⟩
  · exact .inl ⟨rfl, rfl⟩
  · refine .inr ⟨g, cap, cur, rfl, hb, hh, fun j hj => ⟨l.getD j 0, ?_⟩⟩
    rw [Nat.mul_one] at h4
    have : (cur.toList.take n)[j]? = (l.map (Value.int .u8))[j]? := by rw [h4]
    rw [List.getElem?_take, if_pos hj] at this
    have h5 : cur[j]? = (l.map (Value.int .u8))[j]? := by rw [← this]; simp
    rw [h5]
    simp [show j < l.length from by omega]
theorem OwnB.chg {S : Nat → Prop} {w w' : World} {base n : Nat} {v : Value} (h : OwnB w base v n) (hc : Chg S w w') (hs : ∀ i, S i → i < base) : OwnB w' base v n := by
  rcases h with h | ⟨g, cap, C, h1, h2, h3, h4⟩
  · exact .inl h
  · exact .inr ⟨g, cap, C, h1, h2, hc.blk h3 (fun x => by have := hs g x; omega), h4⟩
theorem OwnB.set {w : World} {base n g cap : Nat} {C : Array Value} (hb : base ≤ g) (h : Blk w g C 5) (hc : ∀ j, j < n → ∃ x, C[j]? = some (.int .u8 x)) (k : Nat) (y : Int) :
    OwnB (w.setCell ⟨g, k, none⟩ (.int .u8 y)) base (.slice (some ⟨g, 0, none⟩) n cap) n := by
  refine .inr ⟨g, cap, _, rfl, hb, bset h _ _, fun j hj => ?_⟩
  by_cases e : k = j
  · subst e
    obtain ⟨x, hx⟩ := hc k hj
    have := (Array.getElem?_eq_some_iff.1 hx).1
    exact ⟨y, by rw [Array.getElem?_setIfInBounds_self_of_lt this]⟩
  · obtain ⟨x, hx⟩ := hc j hj
    exact ⟨x, by rw [Array.getElem?_setIfInBounds_ne e]; exact hx⟩
def IncRel (w : World) (base : Nat) (v : Value) (n : Nat) (i : Value) (wr : World) : Prop := ∃ k : Nat, k ≤ n ∧ i = .int .i64 k ∧ OwnB wr base v n ∧ Chg (fun g => base ≤ g) w wr
theorem RRam.old {w w' : World} {base p bl n : Nat} {B : Nat → Nat → Int} {D : Nat → Bool} (h : RRam w p bl n B D) (hc : Chg (fun g => base ≤ g) w w') (h1 : p < base) (h2 : bl < base) : RRam w' p bl n B D :=
  h.chg hc (fun x => by omega) (fun x => by omega)
set_option maxHeartbeats 8000000 in
theorem ramOwn (A : Option Addr) (c : Nat) (l : List Int) (w : World) (hl : Rd w .u8 A l) (hn : A = none → c = 0) (hby : ∀ x ∈ l, (Lit.int .u8 x).wf = true) :
    Calls Try.prog 3 #[.slice A l.length c] w (RetB true w) := by
  have b1 := hl.1
  by_cases g1 : 64 < l.length
  · have d1 : decide ((64 : Int) < (l.length : Int)) = true := by apply decide_eq_true; omega
    go_enter Try.func3, Try.ntmps3
    go_wp2_with fail
    refine (answers _).mono ?_
    rintro e w1 ⟨rfl, hC⟩
    go_wp2_with fail
    go_ret
    exact ⟨rfl, hC⟩
  have d1 : decide ((64 : Int) < (l.length : Int)) = false := by apply decide_eq_false; omega
  have l64 : l.length ≤ 64 := by omega
  clear g1
  have hll : (l.map (Value.int .u8)).length = l.length := List.length_map ..
  have hx : ∀ a : Act, a.eval (.tmp 17) = .slice A l.length c → a.eval (.tmp 17) = .slice A (l.map (Value.int .u8)).length c := fun a e => by rw [hll]; exact e
  have HX := Lib.hid hx
  clear hx
  go_enter Try.func3, Try.ntmps3
  go_wp2_with fail
  refine (new_any 1 _).mono ?_
  rintro e w1 ⟨p, bl, rfl, hR1, hp, hbl, C1⟩
  rw [show clampF 1 = 1 from rfl] at hR1
  have L1 : Rd w1 .u8 A l := hl.chg C1 (fun _ _ _ x => x)
  have hown0 : (w1.alloc (.cells #[] 5)).ownsRow w1.heap.size 5 1 (.slice (some ⟨w1.heap.size, 0, none⟩) 0 0) 0 [] := World.ownsRow_made w1 _ 0 (Nat.le_refl _) (by unfold maxLen; omega) rfl
  have hC0 : Chg NoB w1 (w1.alloc (.cells #[] 5)) := (Chg.refl _ _).alloc _
  have h0' : Rd (w1.alloc (.cells #[] 5)) .u8 A l := L1.chg hC0 (fun _ _ _ x => x)
  go_wp2_with (with_reducible refine append_src (w0 := w1) (S := NoB) rfl (.tmp 16) (.tmp 17) 22 5 rfl (.int .u8 0) 1 Try.underlying22 info8 rfl (.slice (some ⟨w1.heap.size, 0, none⟩) 0 0) 0 [] rfl hC0 hown0 (l.map (Value.int .u8)) A c (HX.out _ rfl) hn (rd_src h0') (one_u8 l) (by omega) (by omega) ?_; intro v2 w2 hown2 hC2; rw [List.nil_append, Nat.zero_add, hll] at hown2)
  have C2 : Chg NoB w w2 := C1.trans hC2 (fun i hi hh => hh)
  have hR2 := hR1.chg hC2 (fun x => x) (fun x => x)
  have hp1 : p < w1.heap.size := blt hR1.st
  have hbl1 : bl < w1.heap.size := by obtain ⟨C, hC, _⟩ := hR1.xs; exact blt hC
  have O2 := OwnB.of hown2
  have hsz2 := hC2.size
  obtain ⟨V2, c2, rfl, -, -, hrd2, -⟩ := own_rd hown2 (by omega)
  clear hown2 hC2 hown0 hC0 h0' L1 hR1 C1
  refine (write_ok p bl 1 _ _ 0 0 V2 c2 l _ hR2 (by omega) (by omega) rfl hrd2).mono ?_
  rintro e w3 ⟨rfl, hR3, k3⟩
  have C3 : Chg NoB w w3 := C2.trans k3 (fun i hi hh => by subst hh; omega)
  have O3 := O2.chg k3 (fun i hi => by subst hi; exact hbl1)
  have key := upd_rd_same (fun _ _ => 0) 0 l
  generalize upd (fun _ _ => 0) 0 0 l = B at *
  have KEY := Lib.hid key
  have hsz3 : w1.heap.size ≤ w3.heap.size := Nat.le_trans hsz2 k3.size
  clear k3 C2 O2 hrd2 hR2 key
  have L3 : Rd w3 .u8 A l := hl.chg C3 (fun _ _ _ x => x)
  go_wp2_with fail
  go_loopw [5] (fun i wr => IncRel w3 w1.heap.size (.slice V2 l.length c2) l.length i wr) (fun i wr => l.length - (intOf i).toNat)
  case atStart => exact ⟨0, by omega, rfl, O3, Chg.refl _ _⟩
  case round =>
    obtain ⟨k, hk, rfl, hO, hC⟩ := hrel
    by_cases hlt : k < l.length
    · rcases hO with ⟨_, h0⟩ | ⟨g, cap, C, e, hb, hbk, hcs⟩
      · omega
      obtain rfl : V2 = some ⟨g, 0, none⟩ := by injection e
      obtain rfl : c2 = cap := by injection e
      obtain ⟨x, hx⟩ := hcs k hlt
      have hcell := bcell hbk k
      rw [hx] at hcell
      have hfr := bfroz hbk k
      have fin : ∀ y, IncRel w3 w1.heap.size (.slice (some ⟨g, 0, none⟩) l.length c2) l.length (.int .i64 ((k : Int) + 1)) (wr.setCell ⟨g, k, none⟩ (.int .u8 y)) :=
        fun y => ⟨k + 1, by omega, rfl, OwnB.set hb hbk hcs k y, Chg.set (S := fun g => w1.heap.size ≤ g) hC (p := ⟨g, k, none⟩) (.inl hb) _⟩
      have FIN := Lib.hid fin
      clear fin e hb hbk hcs hx hC
      go_wp2_with fail
      go_roundw
      case rel => exact FIN.out _
      case measure => simp [intOf]; omega
    · obtain rfl : k = l.length := by omega
      have C4 : Chg NoB w wr := C3.trans hC (fun i hi hh => by have := C3.size; omega)
      have hR4 := hR3.old hC hp1 hbl1
      clear hlt hC hO C3 hR3 O3 L3
      obtain ⟨wo, hwo⟩ : ∃ wo : World, wo = wr := ⟨_, rfl⟩
      subst hwo
      have hpo : p < wo.heap.size := blt hR4.st
      have hblo : bl < wo.heap.size := by obtain ⟨C, hC, _⟩ := hR4.xs; exact blt hC
      go_wp2_with fail
      refine (read_ok p bl 1 B _ 0 0 l.length _ hR4 (by omega) (by omega) rfl).mono ?_
      rintro e w5 ⟨v5, rfl, hown5, k5⟩
      rw [KEY.out] at hown5
      have O5 := OwnB.of hown5
      obtain ⟨V5, c5, rfl, -, -, -, -⟩ := own_rd hown5 (by omega)
      have C5 : Chg NoB w w5 := C4.trans k5 (fun i hi hh => hh)
      have hR5 := hR4.chg k5 (fun x => x) (fun x => x)
      have hws : w.heap.size ≤ wo.heap.size := C4.size
      clear k5 C4 hR4 hown5
      go_wp2_with fail
      go_loopw [8] (fun i wr => IncRel w5 wo.heap.size (.slice V5 l.length c5) l.length i wr) (fun i wr => l.length - (intOf i).toNat)
      case atStart => exact ⟨0, by omega, rfl, O5, Chg.refl _ _⟩
      case round =>
        obtain ⟨k, hk, rfl, hO, hC⟩ := hrel
        by_cases hlt : k < l.length
        · rcases hO with ⟨_, h0⟩ | ⟨g, cap, C, e, hb, hbk, hcs⟩
          · omega
          obtain rfl : V5 = some ⟨g, 0, none⟩ := by injection e
          obtain rfl : c5 = cap := by injection e
          obtain ⟨x, hx⟩ := hcs k hlt
          have hcell := bcell hbk k
          rw [hx] at hcell
          have hfr := bfroz hbk k
          have fin : ∀ y, IncRel w5 wo.heap.size (.slice (some ⟨g, 0, none⟩) l.length c5) l.length (.int .i64 ((k : Int) + 1)) (wr.setCell ⟨g, k, none⟩ (.int .u8 y)) :=
            fun y => ⟨k + 1, by omega, rfl, OwnB.set hb hbk hcs k y, Chg.set (S := fun g => wo.heap.size ≤ g) hC (p := ⟨g, k, none⟩) (.inl hb) _⟩
          have FIN := Lib.hid fin
          clear fin e hb hbk hcs hx hC
          go_wp2_with fail
          go_roundw
          case rel => exact FIN.out _
          case measure => simp [intOf]; omega
        · obtain rfl : k = l.length := by omega
          have C6 : Chg NoB w wr := C5.trans hC (fun i hi hh => by omega)
          have hR6 := hR5.old hC hpo hblo
          clear hlt hC hO C5 hR5 O5
          obtain ⟨w6, hwo⟩ : ∃ w6 : World, w6 = wr := ⟨_, rfl⟩
          subst hwo
          go_wp2_with fail
          refine (read_ok p bl 1 B _ 0 0 l.length _ hR6 (by omega) (by omega) rfl).mono ?_
          rintro e w7 ⟨v7, rfl, hown7, k7⟩
          rw [KEY.out] at hown7
          obtain ⟨V7, c7, rfl, -, -, hrd7, -⟩ := own_rd hown7 (by omega)
          have C7 : Chg NoB w w7 := C6.trans k7 (fun i hi hh => hh)
          clear k7 C6 hR6 hown7
          go_wp2_with fail
          refine (answers _).mono ?_
          rintro e w8 ⟨rfl, k8⟩
          have C8 : Chg NoB w w8 := C7.trans k8 (fun i hi hh => hh)
          have r7 := hrd7.chg k8 (fun _ _ _ x => x)
          have r8 : Rd w8 .u8 A l := hl.chg C8 (fun _ _ _ x => x)
          clear k8 C7 hrd7
          go_wp2_with fail
          refine (same_any V7 A c7 c l l _ r7 r8).mono ?_
          rintro e w9 ⟨rfl, k9⟩
          rw [show decide (l = l) = true from decide_eq_true rfl]
          have C9 : Chg NoB w w9 := C8.trans k9 (fun i hi hh => hh)
          go_wp2_with fail
          go_ret
          exact ⟨rfl, C9⟩
theorem ramOwn_row (a0 : Option Addr) (len0 cap0 : Nat) (z0 : List Int) (W : World) (w0 : IsRow .u8 W a0 len0 cap0 z0) (y0 : len0 * 1 ≤ 140737488351232) :
    Calls Try.prog 3 #[.slice a0 len0 cap0] W fun e w' => e = .returned (.bool true) ∧ Below W.heap.size W w' := by
  obtain ⟨h1, h2, -, h4⟩ := rd_of_row w0 (by omega)
  have := ramOwn a0 cap0 (z0.take len0) W h1 (row_nil w0) h4
  rw [h2] at this
  exact this.mono fun _ _ h => h.below
end Go.Proofs.Ytilameppdnmgdaa.Ram
