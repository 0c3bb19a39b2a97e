/- A journal: what is done to it. -/
import Derived.Test.YtmonkoclbcahiaaSlotN
import Derived.Test.YtmonkoclbcahiaaLogD
import Derived.Deep.RegionHeld3
namespace Go.Proofs.Ytmonkoclbcahiaa.Jour
open Go.RowKit Go.Proofs.Ytmonkoclbcahiaa.Hp Go.Proofs.Ytmonkoclbcahiaa.By Go.Proofs.Ytmonkoclbcahiaa.Disk Go.Proofs.Ytmonkoclbcahiaa.Word Go.Proofs.Ytmonkoclbcahiaa.WordP Go.Proofs.Ytmonkoclbcahiaa.Log Go.Proofs.Ytmonkoclbcahiaa.Slot
set_option linter.unusedVariables false
set_option linter.unusedSimpArgs false
/-- a journal's cells -/
def JB (w : World) (j d : Nat) (gen n : Int) (br : Bool) : Prop := Blk w j #[.pointer (some ⟨d, 0, none⟩), .int .u32 gen, .int .i64 n, .bool br] 89
theorem JB.four {w : World} {j d : Nat} {gen n : Int} {br : Bool} (h : JB w j d gen n br) : w.cell? ⟨j, 0, none⟩ = some (.pointer (some ⟨d, 0, none⟩)) ∧ w.cell? ⟨j, 1, none⟩ = some (.int .u32 gen) ∧ w.cell? ⟨j, 2, none⟩ = some (.int .i64 n) ∧ w.cell? ⟨j, 3, none⟩ = some (.bool br) := by
  have h' : Blk w j _ _ := h
  exact ⟨by rw [bcell h']; rfl, by rw [bcell h']; rfl, by rw [bcell h']; rfl, by rw [bcell h']; rfl⟩
/-- a journal beside its disk -/
def JL (w0 w : World) (j d : Nat) (ρ : Nat → Nat) (s : DSt) (gen n : Int) (br : Bool) : Prop := DL w0 w d ρ s ∧ JB w j d gen n br ∧ ρ j = 0 ∧ w0.heap.size ≤ j
theorem JL.keep {w0 w w' : World} {j d : Nat} {ρ : Nat → Nat} {s : DSt} {gen n : Int} {br : Bool} (h : JL w0 w j d ρ s gen n br) (hc : Chg NoB w w') : JL w0 w' j d ρ s gen n br :=
  ⟨h.1.keep hc, hc.blk (show Blk w j _ _ from h.2.1) (fun x => x), h.2.2⟩
theorem work_err (n : DN) : n.work.2 = 0 ∨ n.work.2 = 6 ∨ n.work.2 = 9 := by
  unfold DN.work
  by_cases a : n.down = true ∨ n.fuse = 0
  · rw [if_pos a]; exact .inr (.inr rfl)
  · rw [if_neg a]
    by_cases b : 0 < n.first
    · simp [b]
    · by_cases c : 0 < n.fail
      · simp [b, c]
      · simp [b, c]
theorem len_any (w0 w : World) (j d : Nat) (ρ : Nat → Nat) (s : DSt) (gen n : Int) (br : Bool) (h : JL w0 w j d ρ s gen n br) : Calls Try.prog 25 #[.pointer (some ⟨j, 0, none⟩)] w fun e w' => e = .returned (.int .i64 n) ∧ w = w' := by
  obtain ⟨c0, c1, c2, c3⟩ := h.2.1.four
  clear c0 c1 c3 h
  go_enter Try.func25, Try.ntmps25
  go_wp2_with fail
  go_ret
  exact ⟨rfl, rfl⟩
theorem len_nil (w : World) : Calls Try.prog 25 #[.pointer none] w fun e w' => e = .returned (.int .i64 0) ∧ w = w' := by
  go_enter Try.func25, Try.ntmps25
  go_wp2_with fail
  go_ret
  exact ⟨rfl, rfl⟩
theorem japp_nil (V : Option Addr) (len c : Nat) (w : World) : Calls Try.prog 23 #[.pointer none, .slice V len c] w fun e w' => e = .returned (.int .i64 1) ∧ w = w' := by
  go_enter Try.func23, Try.ntmps23
  go_wp2_with fail
  go_ret
  exact ⟨rfl, rfl⟩
theorem jreb_nil (V : Value) (w : World) : Calls Try.prog 24 #[.pointer none, V] w fun e w' => e = .returned (.int .i64 1) ∧ w = w' := by
  go_enter Try.func24, Try.ntmps24
  go_wp2_with fail
  go_ret
  exact ⟨rfl, rfl⟩
theorem jopen_nil (w : World) : Calls Try.prog 21 #[.pointer none] w fun e w' => e = .returned (.tuple #[.pointer none, .slice none 0 0, .slice none 0 0, .int .i64 1]) ∧ w = w' := by
  go_enter Try.func21, Try.ntmps21
  go_wp2_with fail
  refine (load_nil _).mono ?_
  rintro e w1 ⟨rfl, rfl⟩
  go_wp2_with fail
  (try simp only [Exit.inBlock, Exit.then])
  refine bodyPost_ret (results_tmp4 rfl _ _ _) rfl ?_
  exact ⟨rfl, rfl⟩
theorem japp_big (w0 w : World) (j d : Nat) (ρ : Nat → Nat) (s : DSt) (gen n : Int) (br : Bool) (h : JL w0 w j d ρ s gen n br) (V : Option Addr) (len c : Nat) (hl : 50 < len) : Calls Try.prog 23 #[.pointer (some ⟨j, 0, none⟩), .slice V len c] w fun e w' => e = .returned (.int .i64 1) ∧ w = w' := by
  clear h
  go_enter Try.func23, Try.ntmps23
  go_wp2_with fail
  go_ret
  exact ⟨rfl, rfl⟩
theorem japp_full (w0 w : World) (j d : Nat) (ρ : Nat → Nat) (s : DSt) (gen n : Int) (br : Bool) (h : JL w0 w j d ρ s gen n br) (V : Option Addr) (len c : Nat) (hl : len ≤ 50) (hf : br = true ∨ 64 ≤ n) : Calls Try.prog 23 #[.pointer (some ⟨j, 0, none⟩), .slice V len c] w fun e w' => e = .returned (.int .i64 4) ∧ w = w' := by
  obtain ⟨c0, c1, c2, c3⟩ := h.2.1.four
  have hd : decide (50 < (len : Int)) = false := decide_eq_false (by omega)
  clear h
  cases br with
  | true =>
    clear hf
    go_enter Try.func23, Try.ntmps23
    go_wp2_with fail
    go_ret
    exact ⟨rfl, rfl⟩
  | false =>
    have h64 : decide (64 ≤ n) = true := decide_eq_true (hf.resolve_left (by decide))
    clear hf
    go_enter Try.func23, Try.ntmps23
    go_wp2_with fail
    go_ret
    exact ⟨rfl, rfl⟩
theorem JB.set {w : World} {j d : Nat} {gen n : Int} {br : Bool} (h : JB w j d gen n br) (m : Int) : JB (w.setCell ⟨j, 2, none⟩ (.int .i64 m)) j d gen m br := by
  have := bset (show Blk w j _ _ from h) 2 (.int .i64 m)
  exact this
theorem JL.mk' {w0 w w' : World} {j d : Nat} {ρ ρ' : Nat → Nat} {s s' : DSt} {gen n : Int} {br : Bool} (h : JL w0 w j d ρ s gen n br) (hc : Chg (Own ρ) w w') (hD : DL w0 w' d ρ' s') (hz : ∀ i, i < w.heap.size → ρ i = 0 → ρ' i = 0) : JL w0 w' j d ρ' s' gen n br :=
  ⟨hD, hc.blk (show Blk w j _ _ from h.2.1) (fun x => x h.2.2.1), hz j (blt (show Blk w j _ _ from h.2.1)) h.2.2.1, h.2.2.2⟩
def JAppPost (w0 w : World) (j d : Nat) (ρ : Nat → Nat) (s : DSt) (gen n : Int) (l : List Int) (e : Ending) (w' : World) : Prop :=
  e = .returned (.int .i64 (appE s n (secL gen n l))) ∧ ∃ ρ', JL w0 w' j d ρ' (appS s n (secL gen n l)) gen (if appE s n (secL gen n l) = 0 then n + 1 else n) false ∧ Chg (fun i => Own ρ i ∨ i = j) w w' ∧ ∀ i, i < w.heap.size → ρ i = 0 → ρ' i = 0
set_option maxRecDepth 100000 in
set_option maxHeartbeats 1000000 in
theorem japp_any {w0 w : World} {j d : Nat} {ρ : Nat → Nat} {s : DSt} {gen n : Int} (h : JL w0 w j d ρ s gen n false) (A : Option Addr) (c : Nat) (l : List Int) (g0 : 0 ≤ gen) (g1 : gen < 4294967296) (n0 : 0 ≤ n) (n1 : n ≤ 63) (hl : l.length ≤ 50) (hr : Rd w .u8 A l) (hb : Bytes l) :
    Calls Try.prog 23 #[.pointer (some ⟨j, 0, none⟩), .slice A l.length c] w (JAppPost w0 w j d ρ s gen n l) := by
  obtain ⟨c0, c1, c2, c3⟩ := h.2.1.four
  have hd : decide (50 < (l.length : Int)) = false := decide_eq_false (by omega)
  have hd2 : decide (64 ≤ n) = false := decide_eq_false (by omega)
  have dr := (Chg.refl NoB w).drew
  have dr2 : Chg (fun i => Own ρ i ∨ i = j) w w.drew := (Chg.refl _ w).drew
  have ha := append_any gen n A c l (h.1.keep dr) g0 g1 n0 n1 hl (hr.chg dr (fun _ _ _ x => x)) hb
  have fin : ∀ w2 ρ2, Chg (Own ρ) w.drew w2 → DL w0 w2 d ρ2 (appS s n (secL gen n l)) → (∀ i, i < w.heap.size → ρ i = 0 → ρ2 i = 0) → JL w0 w2 j d ρ2 (appS s n (secL gen n l)) gen n false := fun w2 ρ2 h1 h2 h3 => (h.keep dr).mk' h1 h2 h3
  have e1 : appE s n (secL gen n l) = 0 → ∀ w2 ρ2, Chg (Own ρ) w.drew w2 → JL w0 w2 j d ρ2 (appS s n (secL gen n l)) gen n false → (∀ i, i < w.heap.size → ρ i = 0 → ρ2 i = 0) → JAppPost w0 w j d ρ s gen n l (.returned (.int .i64 0)) (w2.setCell ⟨j, 2, none⟩ (.int .i64 (n + 1))) := by
    intro hE w2 ρ2 hc hJ hz
    refine ⟨by rw [hE], ρ2, ?_, ?_, hz⟩
    · rw [if_pos hE]
      exact ⟨hJ.1.side (g := j) ((Chg.refl (· = j) w2).set (p := ⟨j, 2, none⟩) (.inl rfl) _) hJ.2.2.1 hJ.2.2.2, hJ.2.1.set (n + 1), hJ.2.2⟩
    · exact (dr2.trans hc (fun i _ x => .inl x)).set (p := ⟨j, 2, none⟩) (.inl (.inr rfl)) _
  have e2 : appE s n (secL gen n l) ≠ 0 → ∀ w2 ρ2, Chg (Own ρ) w.drew w2 → JL w0 w2 j d ρ2 (appS s n (secL gen n l)) gen n false → (∀ i, i < w.heap.size → ρ i = 0 → ρ2 i = 0) → JAppPost w0 w j d ρ s gen n l (.returned (.int .i64 (appE s n (secL gen n l)))) w2 := by
    intro hE w2 ρ2 hc hJ hz
    refine ⟨rfl, ρ2, ?_, ?_, hz⟩
    · rw [if_neg hE]; exact hJ
    · exact dr2.trans hc (fun i _ x => .inl x)
  have hjl := blt (show Blk w j _ _ from h.2.1)
  have F := Lib.hid (And.intro fin (And.intro e1 e2))
  have hj0 := Lib.hid h.2.2
  clear fin e1 e2 h hr hb
  generalize appE s n (secL gen n l) = E at *
  generalize appS s n (secL gen n l) = s2 at *
  go_enter Try.func23, Try.ntmps23
  go_wp2_with fail
  go_region_held3 (fun w' => w'.cell? ⟨j, 0, none⟩ = some (.pointer (some ⟨d, 0, none⟩)) ∧ w'.cell? ⟨j, 1, none⟩ = some (.int .u32 gen) ∧ w'.cell? ⟨j, 2, none⟩ = some (.int .i64 n)) (first | go_keep | exact x4)
    (first | (go_at_call 44; ((with_reducible refine ha.mono ?_); rintro e w4 ⟨rfl, hC4, ρ4, h4, hz4⟩; have hJ := F.out.1 w4 ρ4 hC4 h4 hz4; have f4 := hJ.2.1.four; have x4 := And.intro f4.1 (And.intro f4.2.1 f4.2.2.1))))
  have c24 := f4.2.2.1
  have hfr := bfroz (show Blk w4 j _ _ from hJ.2.1)
  by_cases hE : E = 0
  · subst hE
    have P := F.out.2.1 (by trivial) w4 ρ4 hC4 hJ hz4
    have PP := Lib.hid P
    clear P F ha hC4 hz4 h4 hJ x4 f4 c0 c1 c2 c3 hj0
    go_wp2_with fail
    go_ret
    exact PP.out
  · have hEb : (E == 0) = false := by rw [beq_eq_false_iff_ne]; exact hE
    have P := F.out.2.2 hE w4 ρ4 hC4 hJ hz4
    have PP := Lib.hid P
    clear P F ha hC4 hz4 h4 hJ x4 f4 c0 c1 c2 c3 hj0 hE c24 hfr
    go_wp2_with fail
    go_ret
    exact PP.out
theorem wr_n (s : DSt) (n : Int) (l : List Int) : (s.wr n l).n = s.n := by
  unfold DSt.wr
  by_cases a : l.length = 64
  · rw [if_pos a]
    by_cases b : s.ioE n = 0
    · rw [if_pos b]; unfold DSt.io; split <;> rfl
    · rw [if_neg b]; unfold DSt.io; split <;> rfl
  · rw [if_neg a]
theorem fl_n (s : DSt) : s.fl.n = s.n := by
  unfold DSt.fl; split <;> rfl
theorem wrN_n (s : DSt) (a : Int) (pg : Nat → List Int) : ∀ k, (wrN s a pg k).n = s.n
  | 0 => rfl
  | k + 1 => (wr_n _ _ _).trans (wrN_n s a pg k)
theorem wrE_err (s : DSt) (n : Int) (h0 : 0 ≤ n) (h1 : n < s.n) : s.wrE n 64 = 0 ∨ s.wrE n 64 = 6 ∨ s.wrE n 64 = 9 := by
  unfold DSt.wrE
  rw [if_pos rfl, ioE_in h0 h1]
  exact work_err _
theorem saves_err {s s' : DSt} {gen E : Int} {l : List Int} (hn : s.n = 192) (hl : l.length ≤ 960) (h : Saves s gen l E s') : E = 0 ∨ E = 6 ∨ E = 9 := by
  have hp := pagesN_le hl
  have ha := aN_rng gen
  have ea := aN_eq gen
  rcases h with ⟨k, hk, _, h2, _⟩ | ⟨_, h⟩
  · rw [← h2]
    exact wrE_err _ _ (by omega) (by rw [wrN_n, hn]; omega)
  · rcases h with ⟨h1, _⟩ | ⟨_, h1, _⟩
    · rw [← h1]; exact work_err _
    · rw [h1]
      unfold appE
      split
      · exact work_err _
      · rw [headL_len]; exact wrE_err _ _ (by omega) (by rw [fl_n, wrN_n, hn]; omega)
theorem saves_n {s s' : DSt} {gen E : Int} {l : List Int} (h : Saves s gen l E s') : s'.n = s.n := by
  rcases h with ⟨k, hk, _, _, _, rfl⟩ | ⟨_, h⟩
  · exact wrN_n _ _ _ _
  · rcases h with ⟨_, _, rfl⟩ | ⟨_, _, rfl⟩
    · rw [fl_n, wrN_n]
    · unfold appS
      split
      · rw [fl_n, wr_n, fl_n, wrN_n]
      · rw [wr_n, fl_n, wrN_n]
theorem jreb_big {w0 w : World} {j d : Nat} {ρ : Nat → Nat} {s : DSt} {gen n : Int} {br : Bool} (h : JL w0 w j d ρ s gen n br) (V : Option Addr) (len c : Nat) (hl : 960 < len) (hm : len ≤ 140737488351232) : Calls Try.prog 24 #[.pointer (some ⟨j, 0, none⟩), .slice V len c] w fun e w' => e = .returned (.int .i64 1) ∧ JL w0 w' j d ρ s gen n br ∧ Chg NoB w w' := by
  obtain ⟨c0, c1, c2, c3⟩ := h.2.1.four
  have H := Lib.hid h
  have sb := save_bad (some ⟨d, 0, none⟩) (IntKind.u32.wrap (gen + 1)) V len c w.drew hm (.inr hl)
  clear h c2 c3
  go_enter Try.func24, Try.ntmps24
  go_wp2_with fail
  go_region_held3 (fun w' => w'.cell? ⟨j, 0, none⟩ = some (.pointer (some ⟨d, 0, none⟩)) ∧ w'.cell? ⟨j, 1, none⟩ = some (.int .u32 gen)) (first | go_keep | exact ⟨c0, c1⟩)
    (first | (go_at_call 14; ((with_reducible refine sb.mono ?_); rintro e w4 ⟨rfl, rfl⟩)))
  go_wp2_with fail
  go_ret
  exact ⟨rfl, H.out.keep ((Chg.refl NoB w).drew), (Chg.refl NoB w).drew⟩
def JRebPost (w0 w : World) (j d : Nat) (ρ : Nat → Nat) (s : DSt) (gen n : Int) (l : List Int) (e : Ending) (w' : World) : Prop :=
  ∃ E s', e = .returned (.int .i64 E) ∧ Saves s (gen + 1) l E s' ∧ ∃ ρ', JL w0 w' j d ρ' s' (if E = 0 then gen + 1 else gen) (if E = 0 then 0 else n) (if E = 0 then false else true) ∧ Chg (fun i => Own ρ i ∨ i = j) w w' ∧ ∀ i, i < w.heap.size → ρ i = 0 → ρ' i = 0
theorem JB.set3 {w : World} {j d : Nat} {gen n : Int} {br : Bool} (h : JB w j d gen n br) (b : Bool) : JB (w.setCell ⟨j, 3, none⟩ (.bool b)) j d gen n b := bset (show Blk w j _ _ from h) 3 (.bool b)
theorem JB.setA {w : World} {j d : Nat} {gen n : Int} {br : Bool} (h : JB w j d gen n br) (g : Int) : JB (w.setCell ⟨j, 1, none⟩ (.int .u32 g)) j d g n br := bset (show Blk w j _ _ from h) 1 (.int .u32 g)
set_option maxRecDepth 100000 in
set_option maxHeartbeats 1000000 in
theorem jreb_any {w0 w : World} {j d : Nat} {ρ : Nat → Nat} {s : DSt} {gen n : Int} {br : Bool} (h : JL w0 w j d ρ s gen n br) (hn : s.n = 192) (A : Option Addr) (c : Nat) (l : List Int) (g0 : 0 ≤ gen) (g1 : gen + 1 < 4294967296) (hl : l.length ≤ 960) (hr : Rd w .u8 A l) (hlt : 0 < l.length → Off A (Own ρ)) (hcap : l.length ≤ c) (hb : Bytes l) :
    Calls Try.prog 24 #[.pointer (some ⟨j, 0, none⟩), .slice A l.length c] w (JRebPost w0 w j d ρ s gen n l) := by
  obtain ⟨c0, c1, c2, c3⟩ := h.2.1.four
  have dr := (Chg.refl NoB w).drew
  have dr2 : Chg (fun i => Own ρ i ∨ i = j) w w.drew := (Chg.refl _ w).drew
  have ha := save_any (gen + 1) A c l (h.1.keep dr) (by omega) g1 hl (hr.chg dr (fun _ _ _ x => x)) hlt hcap hb
  have ew : IntKind.u32.wrap (gen + 1) = gen + 1 := by rw [IntKind.wrap_u32]; omega
  replace ha : Calls Try.prog 14 #[.pointer (some ⟨d, 0, none⟩), .int .u32 (IntKind.u32.wrap (gen + 1)), .slice A l.length c] w.drew (SavePost w0 w.drew d ρ s (gen + 1) l) := by rw [ew]; exact ha
  clear ew
  have fin : ∀ w2 E s2 ρ2, Saves s (gen + 1) l E s2 → Chg (Own ρ) w.drew w2 → DL w0 w2 d ρ2 s2 → (∀ i, i < w.heap.size → ρ i = 0 → ρ2 i = 0) → JL w0 w2 j d ρ2 s2 gen n br ∧ (E = 0 → JRebPost w0 w j d ρ s gen n l (.returned (.int .i64 0)) (((w2.setCell ⟨j, 1, none⟩ (.int .u32 (gen + 1))).setCell ⟨j, 2, none⟩ (.int .i64 0)).setCell ⟨j, 3, none⟩ (.bool false))) ∧ (E ≠ 0 → JRebPost w0 w j d ρ s gen n l (.returned (.int .i64 E)) (w2.setCell ⟨j, 3, none⟩ (.bool true))) := by
    intro w2 E s2 ρ2 hS hc hD hz
    have hJ := (h.keep dr).mk' hc hD hz
    have sj : ∀ w3 k v, Chg (· = j) w2 w3 → Chg (· = j) w2 (w3.setCell ⟨j, k, none⟩ v) := fun w3 k v h3 => h3.set (p := ⟨j, k, none⟩) (.inl rfl) v
    refine ⟨hJ, fun hE => ?_, fun hE => ?_⟩
    · have c3 := sj _ 3 (.bool false) (sj _ 2 (.int .i64 0) (sj _ 1 (.int .u32 (gen + 1)) (Chg.refl _ w2)))
      exact ⟨0, s2, rfl, by rw [← hE]; exact hS, ρ2, ⟨hJ.1.side (g := j) c3 hJ.2.2.1 hJ.2.2.2, ((hJ.2.1.setA (gen + 1)).set 0).set3 false, hJ.2.2⟩, (dr2.trans hc (fun i _ x => .inl x)).trans c3 (fun i _ x => .inr x), hz⟩
    · have c3 := sj _ 3 (.bool true) (Chg.refl _ w2)
      refine ⟨E, s2, rfl, hS, ρ2, ?_, (dr2.trans hc (fun i _ x => .inl x)).trans c3 (fun i _ x => .inr x), hz⟩
      rw [if_neg hE, if_neg hE, if_neg hE]
      exact ⟨hJ.1.side (g := j) c3 hJ.2.2.1 hJ.2.2.2, hJ.2.1.set3 true, hJ.2.2⟩
  have F := Lib.hid (And.intro fin (And.intro hn hl))
  clear fin h hr hb hlt c2 c3
  go_enter Try.func24, Try.ntmps24
  go_wp2_with fail
  go_region_held3 (fun w' => w'.cell? ⟨j, 0, none⟩ = some (.pointer (some ⟨d, 0, none⟩)) ∧ w'.cell? ⟨j, 1, none⟩ = some (.int .u32 gen)) (first | go_keep | exact x4)
    (first | (go_at_call 14; ((with_reducible refine ha.mono ?_); rintro e w4 ⟨E, s2, rfl, hS, ρ4, h4, hC4, hz4⟩; have hF := F.out.1 w4 E s2 ρ4 hS hC4 h4 hz4; have f4 := hF.1.2.1.four; have x4 := And.intro f4.1 f4.2.1)))
  have hE3 := saves_err F.out.2.1 F.out.2.2 hS
  have y0 := f4.1
  have y1 := f4.2.1
  have y2 := f4.2.2.1
  have y3 := f4.2.2.2
  have hfr := bfroz (show Blk w4 j _ _ from hF.1.2.1)
  by_cases hE : E = 0
  · subst hE
    have P := Lib.hid (hF.2.1 rfl)
    clear hF F ha hS hC4 hz4 h4 x4 f4 hE3 c0 c1
    go_wp2_with fail
    go_ret
    exact P.out
  · have P := Lib.hid (hF.2.2 hE)
    have hEb : (E == 0) = false := by rw [beq_eq_false_iff_ne]; exact hE
    have hEc : (E == 1) = false := by rw [beq_eq_false_iff_ne]; omega
    clear hF F ha hS hC4 hz4 h4 x4 f4 hE3 c0 c1 hE
    go_wp2_with fail
    go_ret
    exact P.out
end Go.Proofs.Ytmonkoclbcahiaa.Jour
