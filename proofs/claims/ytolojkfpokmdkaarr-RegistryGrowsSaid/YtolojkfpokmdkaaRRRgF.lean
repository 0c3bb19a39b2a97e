/- Several texts in one (a claim holds at most 60 files). -/
import Derived.Test.YtolojkfpokmdkaaRRRgE
import Derived.Test.YtolojkfpokmdkaaRRRgD
import Derived.Deep.RegionHeld3
import Derived.Test.YtolojkfpokmdkaaRRRgA
-- XJour
namespace Go.Proofs.YtolojkfpokmdkaaRR.Jour
open Go.RowKit Go.Proofs.YtolojkfpokmdkaaRR.Hp Go.Proofs.YtolojkfpokmdkaaRR.By Go.Proofs.YtolojkfpokmdkaaRR.Disk Go.Proofs.YtolojkfpokmdkaaRR.Word Go.Proofs.YtolojkfpokmdkaaRR.WordP Go.Proofs.YtolojkfpokmdkaaRR.Log Go.Proofs.YtolojkfpokmdkaaRR.Slot
set_option linter.unusedVariables false
set_option linter.unusedSimpArgs false
/-- a journal's cells -/
def JB (w : World) (j d : Nat) (gen n : Int) (br : Bool) : Prop := Blk w j #[.pointer (some ⟨d, 0, none⟩), .int .u32 gen, .int .i64 n, .bool br] 76
theorem JB.four {w : World} {j d : Nat} {gen n : Int} {br : Bool} (h : JB w j d gen n br) : w.cell? ⟨j, 0, none⟩ = some (.pointer (some ⟨d, 0, none⟩)) ∧ w.cell? ⟨j, 1, none⟩ = some (.int .u32 gen) ∧ w.cell? ⟨j, 2, none⟩ = some (.int .i64 n) ∧ w.cell? ⟨j, 3, none⟩ = some (.bool br) := by
  have h' : Blk w j _ _ := h
  exact ⟨by rw [bcell h']; rfl, by rw [bcell h']; rfl, by rw [bcell h']; rfl, by rw [bcell h']; rfl⟩
/-- a journal beside its disk -/
def JL (w0 w : World) (j d : Nat) (ρ : Nat → Nat) (s : DSt) (gen n : Int) (br : Bool) : Prop := DL w0 w d ρ s ∧ JB w j d gen n br ∧ ρ j = 0 ∧ w0.heap.size ≤ j
theorem JL.keep {w0 w w' : World} {j d : Nat} {ρ : Nat → Nat} {s : DSt} {gen n : Int} {br : Bool} (h : JL w0 w j d ρ s gen n br) (hc : Chg NoB w w') : JL w0 w' j d ρ s gen n br :=
  ⟨h.1.keep hc, hc.blk (show Blk w j _ _ from h.2.1) (fun x => x), h.2.2⟩
theorem work_err (n : DN) : n.work.2 = 0 ∨ n.work.2 = 6 ∨ n.work.2 = 9 := by
  unfold DN.work
  by_cases a : n.down = true ∨ n.fuse = 0
  · rw [if_pos a]; exact .inr (.inr rfl)
  · rw [if_neg a]
    by_cases b : 0 < n.first
    · simp [b]
    · by_cases c : 0 < n.fail
      · simp [b, c]
      · simp [b, c]
theorem japp_nil (V : Option Addr) (len c : Nat) (w : World) : Calls Try.prog 37 #[.pointer none, .slice V len c] w fun e w' => e = .returned (.int .i64 1) ∧ w = w' := by
  go_enter Try.func37, Try.ntmps37
  go_wp2_with fail
  go_ret
  exact ⟨rfl, rfl⟩
theorem jreb_nil (V : Value) (w : World) : Calls Try.prog 38 #[.pointer none, V] w fun e w' => e = .returned (.int .i64 1) ∧ w = w' := by
  go_enter Try.func38, Try.ntmps38
  go_wp2_with fail
  go_ret
  exact ⟨rfl, rfl⟩
theorem jopen_nil (w : World) : Calls Try.prog 17 #[.pointer none] w fun e w' => e = .returned (.tuple #[.pointer none, .slice none 0 0, .slice none 0 0, .int .i64 1]) ∧ w = w' := by
  go_enter Try.func17, Try.ntmps17
  go_wp2_with fail
  refine (load_nil _).mono ?_
  rintro e w1 ⟨rfl, rfl⟩
  go_wp2_with fail
  (try simp only [Exit.inBlock, Exit.then])
  refine bodyPost_ret (results_tmp4 rfl _ _ _) rfl ?_
  exact ⟨rfl, rfl⟩
theorem japp_big (w0 w : World) (j d : Nat) (ρ : Nat → Nat) (s : DSt) (gen n : Int) (br : Bool) (h : JL w0 w j d ρ s gen n br) (V : Option Addr) (len c : Nat) (hl : 50 < len) : Calls Try.prog 37 #[.pointer (some ⟨j, 0, none⟩), .slice V len c] w fun e w' => e = .returned (.int .i64 1) ∧ w = w' := by
  clear h
  go_enter Try.func37, Try.ntmps37
  go_wp2_with fail
  go_ret
  exact ⟨rfl, rfl⟩
theorem japp_full (w0 w : World) (j d : Nat) (ρ : Nat → Nat) (s : DSt) (gen n : Int) (br : Bool) (h : JL w0 w j d ρ s gen n br) (V : Option Addr) (len c : Nat) (hl : len ≤ 50) (hf : br = true ∨ 64 ≤ n) : Calls Try.prog 37 #[.pointer (some ⟨j, 0, none⟩), .slice V len c] w fun e w' => e = .returned (.int .i64 4) ∧ w = w' := by
  obtain ⟨c0, c1, c2, c3⟩ := h.2.1.four
  have hd : decide (50 < (len : Int)) = false := decide_eq_false (by omega)
  clear h
  cases br with
  | true =>
    clear hf
    go_enter Try.func37, Try.ntmps37
    go_wp2_with fail
    go_ret
    exact ⟨rfl, rfl⟩
  | false =>
    have h64 : decide (64 ≤ n) = true := decide_eq_true (hf.resolve_left (by decide))
    clear hf
    go_enter Try.func37, Try.ntmps37
    go_wp2_with fail
    go_ret
    exact ⟨rfl, rfl⟩
theorem JB.set {w : World} {j d : Nat} {gen n : Int} {br : Bool} (h : JB w j d gen n br) (m : Int) : JB (w.setCell ⟨j, 2, none⟩ (.int .i64 m)) j d gen m br := by
  have := bset (show Blk w j _ _ from h) 2 (.int .i64 m)
  exact this
theorem JL.mk' {w0 w w' : World} {j d : Nat} {ρ ρ' : Nat → Nat} {s s' : DSt} {gen n : Int} {br : Bool} (h : JL w0 w j d ρ s gen n br) (hc : Chg (Own ρ) w w') (hD : DL w0 w' d ρ' s') (hz : ∀ i, i < w.heap.size → ρ i = 0 → ρ' i = 0) : JL w0 w' j d ρ' s' gen n br :=
  ⟨hD, hc.blk (show Blk w j _ _ from h.2.1) (fun x => x h.2.2.1), hz j (blt (show Blk w j _ _ from h.2.1)) h.2.2.1, h.2.2.2⟩
def JAppPost (w0 w : World) (j d : Nat) (ρ : Nat → Nat) (s : DSt) (gen n : Int) (l : List Int) (e : Ending) (w' : World) : Prop :=
  e = .returned (.int .i64 (appE s n (secL gen n l))) ∧ ∃ ρ', JL w0 w' j d ρ' (appS s n (secL gen n l)) gen (if appE s n (secL gen n l) = 0 then n + 1 else n) false ∧ Chg (fun i => Own ρ i ∨ i = j) w w' ∧ ∀ i, i < w.heap.size → ρ i = 0 → ρ' i = 0
set_option maxRecDepth 100000 in
set_option maxHeartbeats 1000000 in
theorem japp_any {w0 w : World} {j d : Nat} {ρ : Nat → Nat} {s : DSt} {gen n : Int} (h : JL w0 w j d ρ s gen n false) (A : Option Addr) (c : Nat) (l : List Int) (g0 : 0 ≤ gen) (g1 : gen < 4294967296) (n0 : 0 ≤ n) (n1 : n ≤ 63) (hl : l.length ≤ 50) (hr : Rd w .u8 A l) (hb : Bytes l) :
    Calls Try.prog 37 #[.pointer (some ⟨j, 0, none⟩), .slice A l.length c] w (JAppPost w0 w j d ρ s gen n l) := by
  obtain ⟨c0, c1, c2, c3⟩ := h.2.1.four
  have hd : decide (50 < (l.length : Int)) = false := decide_eq_false (by omega)
  have hd2 : decide (64 ≤ n) = false := decide_eq_false (by omega)
  have dr := (Chg.refl NoB w).drew
  have dr2 : Chg (fun i => Own ρ i ∨ i = j) w w.drew := (Chg.refl _ w).drew
  have ha := append_any gen n A c l (h.1.keep dr) g0 g1 n0 n1 hl (hr.chg dr (fun _ _ _ x => x)) hb
  have fin : ∀ w2 ρ2, Chg (Own ρ) w.drew w2 → DL w0 w2 d ρ2 (appS s n (secL gen n l)) → (∀ i, i < w.heap.size → ρ i = 0 → ρ2 i = 0) → JL w0 w2 j d ρ2 (appS s n (secL gen n l)) gen n false := fun w2 ρ2 h1 h2 h3 => (h.keep dr).mk' h1 h2 h3
  have e1 : appE s n (secL gen n l) = 0 → ∀ w2 ρ2, Chg (Own ρ) w.drew w2 → JL w0 w2 j d ρ2 (appS s n (secL gen n l)) gen n false → (∀ i, i < w.heap.size → ρ i = 0 → ρ2 i = 0) → JAppPost w0 w j d ρ s gen n l (.returned (.int .i64 0)) (w2.setCell ⟨j, 2, none⟩ (.int .i64 (n + 1))) := by
    intro hE w2 ρ2 hc hJ hz
    refine ⟨by rw [hE], ρ2, ?_, ?_, hz⟩
    · rw [if_pos hE]
      exact ⟨hJ.1.side (g := j) ((Chg.refl (· = j) w2).set (p := ⟨j, 2, none⟩) (.inl rfl) _) hJ.2.2.1 hJ.2.2.2, hJ.2.1.set (n + 1), hJ.2.2⟩
    · exact (dr2.trans hc (fun i _ x => .inl x)).set (p := ⟨j, 2, none⟩) (.inl (.inr rfl)) _
  have e2 : appE s n (secL gen n l) ≠ 0 → ∀ w2 ρ2, Chg (Own ρ) w.drew w2 → JL w0 w2 j d ρ2 (appS s n (secL gen n l)) gen n false → (∀ i, i < w.heap.size → ρ i = 0 → ρ2 i = 0) → JAppPost w0 w j d ρ s gen n l (.returned (.int .i64 (appE s n (secL gen n l)))) w2 := by
    intro hE w2 ρ2 hc hJ hz
    refine ⟨rfl, ρ2, ?_, ?_, hz⟩
    · rw [if_neg hE]; exact hJ
    · exact dr2.trans hc (fun i _ x => .inl x)
  have hjl := blt (show Blk w j _ _ from h.2.1)
  have F := Lib.hid (And.intro fin (And.intro e1 e2))
  have hj0 := Lib.hid h.2.2
  clear fin e1 e2 h hr hb
  generalize appE s n (secL gen n l) = E at *
  generalize appS s n (secL gen n l) = s2 at *
  go_enter Try.func37, Try.ntmps37
  go_wp2_with fail
  go_region_held3 (fun w' => w'.cell? ⟨j, 0, none⟩ = some (.pointer (some ⟨d, 0, none⟩)) ∧ w'.cell? ⟨j, 1, none⟩ = some (.int .u32 gen) ∧ w'.cell? ⟨j, 2, none⟩ = some (.int .i64 n)) (first | go_keep | exact x4)
    (first | (go_at_call 49; ((with_reducible refine ha.mono ?_); rintro e w4 ⟨rfl, hC4, ρ4, h4, hz4⟩; have hJ := F.out.1 w4 ρ4 hC4 h4 hz4; have f4 := hJ.2.1.four; have x4 := And.intro f4.1 (And.intro f4.2.1 f4.2.2.1))))
  have c24 := f4.2.2.1
  have hfr := bfroz (show Blk w4 j _ _ from hJ.2.1)
  by_cases hE : E = 0
  · subst hE
    have P := F.out.2.1 (by trivial) w4 ρ4 hC4 hJ hz4
    have PP := Lib.hid P
    clear P F ha hC4 hz4 h4 hJ x4 f4 c0 c1 c2 c3 hj0
    go_wp2_with fail
    go_ret
    exact PP.out
  · have hEb : (E == 0) = false := by rw [beq_eq_false_iff_ne]; exact hE
    have P := F.out.2.2 hE w4 ρ4 hC4 hJ hz4
    have PP := Lib.hid P
    clear P F ha hC4 hz4 h4 hJ x4 f4 c0 c1 c2 c3 hj0 hE c24 hfr
    go_wp2_with fail
    go_ret
    exact PP.out
theorem wr_n (s : DSt) (n : Int) (l : List Int) : (s.wr n l).n = s.n := by
  unfold DSt.wr
  by_cases a : l.length = 64
  · rw [if_pos a]
    by_cases b : s.ioE n = 0
    · rw [if_pos b]; unfold DSt.io; split <;> rfl
    · rw [if_neg b]; unfold DSt.io; split <;> rfl
  · rw [if_neg a]
theorem fl_n (s : DSt) : s.fl.n = s.n := by
  unfold DSt.fl; split <;> rfl
theorem wrN_n (s : DSt) (a : Int) (pg : Nat → List Int) : ∀ k, (wrN s a pg k).n = s.n
  | 0 => rfl
  | k + 1 => (wr_n _ _ _).trans (wrN_n s a pg k)
theorem wrE_err (s : DSt) (n : Int) (h0 : 0 ≤ n) (h1 : n < s.n) : s.wrE n 64 = 0 ∨ s.wrE n 64 = 6 ∨ s.wrE n 64 = 9 := by
  unfold DSt.wrE
  rw [if_pos rfl, ioE_in h0 h1]
  exact work_err _
theorem saves_err {s s' : DSt} {gen E : Int} {l : List Int} (hn : s.n = 192) (hl : l.length ≤ 960) (h : Saves s gen l E s') : E = 0 ∨ E = 6 ∨ E = 9 := by
  have hp := pagesN_le hl
  have ha := aN_rng gen
  have ea := aN_eq gen
  rcases h with ⟨k, hk, _, h2, _⟩ | ⟨_, h⟩
  · rw [← h2]
    exact wrE_err _ _ (by omega) (by rw [wrN_n, hn]; omega)
  · rcases h with ⟨h1, _⟩ | ⟨_, h1, _⟩
    · rw [← h1]; exact work_err _
    · rw [h1]
      unfold appE
      split
      · exact work_err _
      · rw [headL_len]; exact wrE_err _ _ (by omega) (by rw [fl_n, wrN_n, hn]; omega)
theorem saves_n {s s' : DSt} {gen E : Int} {l : List Int} (h : Saves s gen l E s') : s'.n = s.n := by
  rcases h with ⟨k, hk, _, _, _, rfl⟩ | ⟨_, h⟩
  · exact wrN_n _ _ _ _
  · rcases h with ⟨_, _, rfl⟩ | ⟨_, _, rfl⟩
    · rw [fl_n, wrN_n]
    · unfold appS
      split
      · rw [fl_n, wr_n, fl_n, wrN_n]
      · rw [wr_n, fl_n, wrN_n]
theorem jreb_big {w0 w : World} {j d : Nat} {ρ : Nat → Nat} {s : DSt} {gen n : Int} {br : Bool} (h : JL w0 w j d ρ s gen n br) (V : Option Addr) (len c : Nat) (hl : 960 < len) (hm : len ≤ 140737488351232) : Calls Try.prog 38 #[.pointer (some ⟨j, 0, none⟩), .slice V len c] w fun e w' => e = .returned (.int .i64 1) ∧ JL w0 w' j d ρ s gen n br ∧ Chg NoB w w' := by
  obtain ⟨c0, c1, c2, c3⟩ := h.2.1.four
  have H := Lib.hid h
  have sb := save_bad (some ⟨d, 0, none⟩) (IntKind.u32.wrap (gen + 1)) V len c w.drew hm (.inr hl)
  clear h c2 c3
  go_enter Try.func38, Try.ntmps38
  go_wp2_with fail
  go_region_held3 (fun w' => w'.cell? ⟨j, 0, none⟩ = some (.pointer (some ⟨d, 0, none⟩)) ∧ w'.cell? ⟨j, 1, none⟩ = some (.int .u32 gen)) (first | go_keep | exact ⟨c0, c1⟩)
    (first | (go_at_call 50; ((with_reducible refine sb.mono ?_); rintro e w4 ⟨rfl, rfl⟩)))
  go_wp2_with fail
  go_ret
  exact ⟨rfl, H.out.keep ((Chg.refl NoB w).drew), (Chg.refl NoB w).drew⟩
def JRebPost (w0 w : World) (j d : Nat) (ρ : Nat → Nat) (s : DSt) (gen n : Int) (l : List Int) (e : Ending) (w' : World) : Prop :=
  ∃ E s', e = .returned (.int .i64 E) ∧ Saves s (gen + 1) l E s' ∧ ∃ ρ', JL w0 w' j d ρ' s' (if E = 0 then gen + 1 else gen) (if E = 0 then 0 else n) (if E = 0 then false else true) ∧ Chg (fun i => Own ρ i ∨ i = j) w w' ∧ ∀ i, i < w.heap.size → ρ i = 0 → ρ' i = 0
theorem JB.set3 {w : World} {j d : Nat} {gen n : Int} {br : Bool} (h : JB w j d gen n br) (b : Bool) : JB (w.setCell ⟨j, 3, none⟩ (.bool b)) j d gen n b := bset (show Blk w j _ _ from h) 3 (.bool b)
theorem JB.setA {w : World} {j d : Nat} {gen n : Int} {br : Bool} (h : JB w j d gen n br) (g : Int) : JB (w.setCell ⟨j, 1, none⟩ (.int .u32 g)) j d g n br := bset (show Blk w j _ _ from h) 1 (.int .u32 g)
set_option maxRecDepth 100000 in
set_option maxHeartbeats 1000000 in
theorem jreb_any {w0 w : World} {j d : Nat} {ρ : Nat → Nat} {s : DSt} {gen n : Int} {br : Bool} (h : JL w0 w j d ρ s gen n br) (hn : s.n = 192) (A : Option Addr) (c : Nat) (l : List Int) (g0 : 0 ≤ gen) (g1 : gen + 1 < 4294967296) (hl : l.length ≤ 960) (hr : Rd w .u8 A l) (hlt : 0 < l.length → Off A (Own ρ)) (hcap : l.length ≤ c) (hb : Bytes l) :
    Calls Try.prog 38 #[.pointer (some ⟨j, 0, none⟩), .slice A l.length c] w (JRebPost w0 w j d ρ s gen n l) := by
  obtain ⟨c0, c1, c2, c3⟩ := h.2.1.four
  have dr := (Chg.refl NoB w).drew
  have dr2 : Chg (fun i => Own ρ i ∨ i = j) w w.drew := (Chg.refl _ w).drew
  have ha := save_any (gen + 1) A c l (h.1.keep dr) (by omega) g1 hl (hr.chg dr (fun _ _ _ x => x)) hlt hcap hb
  have ew : IntKind.u32.wrap (gen + 1) = gen + 1 := by rw [IntKind.wrap_u32]; omega
  replace ha : Calls Try.prog 50 #[.pointer (some ⟨d, 0, none⟩), .int .u32 (IntKind.u32.wrap (gen + 1)), .slice A l.length c] w.drew (SavePost w0 w.drew d ρ s (gen + 1) l) := by rw [ew]; exact ha
  clear ew
  have fin : ∀ w2 E s2 ρ2, Saves s (gen + 1) l E s2 → Chg (Own ρ) w.drew w2 → DL w0 w2 d ρ2 s2 → (∀ i, i < w.heap.size → ρ i = 0 → ρ2 i = 0) → JL w0 w2 j d ρ2 s2 gen n br ∧ (E = 0 → JRebPost w0 w j d ρ s gen n l (.returned (.int .i64 0)) (((w2.setCell ⟨j, 1, none⟩ (.int .u32 (gen + 1))).setCell ⟨j, 2, none⟩ (.int .i64 0)).setCell ⟨j, 3, none⟩ (.bool false))) ∧ (E ≠ 0 → JRebPost w0 w j d ρ s gen n l (.returned (.int .i64 E)) (w2.setCell ⟨j, 3, none⟩ (.bool true))) := by
    intro w2 E s2 ρ2 hS hc hD hz
    have hJ := (h.keep dr).mk' hc hD hz
    have sj : ∀ w3 k v, Chg (· = j) w2 w3 → Chg (· = j) w2 (w3.setCell ⟨j, k, none⟩ v) := fun w3 k v h3 => h3.set (p := ⟨j, k, none⟩) (.inl rfl) v
    refine ⟨hJ, fun hE => ?_, fun hE => ?_⟩
    · have c3 := sj _ 3 (.bool false) (sj _ 2 (.int .i64 0) (sj _ 1 (.int .u32 (gen + 1)) (Chg.refl _ w2)))
      exact ⟨0, s2, rfl, by rw [← hE]; exact hS, ρ2, ⟨hJ.1.side (g := j) c3 hJ.2.2.1 hJ.2.2.2, ((hJ.2.1.setA (gen + 1)).set 0).set3 false, hJ.2.2⟩, (dr2.trans hc (fun i _ x => .inl x)).trans c3 (fun i _ x => .inr x), hz⟩
    · have c3 := sj _ 3 (.bool true) (Chg.refl _ w2)
      refine ⟨E, s2, rfl, hS, ρ2, ?_, (dr2.trans hc (fun i _ x => .inl x)).trans c3 (fun i _ x => .inr x), hz⟩
      rw [if_neg hE, if_neg hE, if_neg hE]
      exact ⟨hJ.1.side (g := j) c3 hJ.2.2.1 hJ.2.2.2, hJ.2.1.set3 true, hJ.2.2⟩
  have F := Lib.hid (And.intro fin (And.intro hn hl))
  clear fin h hr hb hlt c2 c3
  go_enter Try.func38, Try.ntmps38
  go_wp2_with fail
  go_region_held3 (fun w' => w'.cell? ⟨j, 0, none⟩ = some (.pointer (some ⟨d, 0, none⟩)) ∧ w'.cell? ⟨j, 1, none⟩ = some (.int .u32 gen)) (first | go_keep | exact x4)
    (first | (go_at_call 50; ((with_reducible refine ha.mono ?_); rintro e w4 ⟨E, s2, rfl, hS, ρ4, h4, hC4, hz4⟩; have hF := F.out.1 w4 E s2 ρ4 hS hC4 h4 hz4; have f4 := hF.1.2.1.four; have x4 := And.intro f4.1 f4.2.1)))
  have hE3 := saves_err F.out.2.1 F.out.2.2 hS
  have y0 := f4.1
  have y1 := f4.2.1
  have y2 := f4.2.2.1
  have y3 := f4.2.2.2
  have hfr := bfroz (show Blk w4 j _ _ from hF.1.2.1)
  by_cases hE : E = 0
  · subst hE
    have P := Lib.hid (hF.2.1 rfl)
    clear hF F ha hS hC4 hz4 h4 x4 f4 hE3 c0 c1
    go_wp2_with fail
    go_ret
    exact P.out
  · have P := Lib.hid (hF.2.2 hE)
    have hEb : (E == 0) = false := by rw [beq_eq_false_iff_ne]; exact hE
    have hEc : (E == 1) = false := by rw [beq_eq_false_iff_ne]; omega
    clear hF F ha hS hC4 hz4 h4 x4 f4 hE3 c0 c1 hE
    go_wp2_with fail
    go_ret
    exact P.out
end Go.Proofs.YtolojkfpokmdkaaRR.Jour

-- XJourB
namespace Go.Proofs.YtolojkfpokmdkaaRR.Jour
open Go.RowKit Go.Proofs.YtolojkfpokmdkaaRR.Hp Go.Proofs.YtolojkfpokmdkaaRR.By Go.Proofs.YtolojkfpokmdkaaRR.Disk Go.Proofs.YtolojkfpokmdkaaRR.Word Go.Proofs.YtolojkfpokmdkaaRR.WordP Go.Proofs.YtolojkfpokmdkaaRR.Log Go.Proofs.YtolojkfpokmdkaaRR.Slot
set_option linter.unusedVariables false
set_option linter.unusedSimpArgs false
theorem lrows_len {w : World} {base : Nat} {v : Value} {bs : List (List Int)} (h : LRows w base v bs) : ∃ A c, v = .slice A bs.length c := by
  obtain ⟨SVs, hown, _⟩ := h
  rcases hown.2 with ⟨rfl, h0⟩ | ⟨g, cap, cur, rfl, _⟩
  · exact ⟨none, 0, by rw [h0]⟩
  · exact ⟨_, _, rfl⟩
def OpenPost (w0 w : World) (d : Nat) (ρ : Nat → Nat) (s : DSt) (f : Nat → List Int) (e : Ending) (w' : World) : Prop :=
  ∃ j vb A k c, e = .returned (.tuple #[.pointer (some ⟨j, 0, none⟩), vb, .slice A k c, .int .i64 0]) ∧ JL w0 w' j d ρ s (loadOf f).1 k false ∧ Chg (Own ρ) w w' ∧ OwnB w.heap.size w' vb (loadOf f).2 ∧ LRows w' w.heap.size (.slice A k c) (recs s (loadOf f).1 k) ∧ k ≤ 64 ∧ (∀ j : Nat, j < k → (recOf (s.get (j : Int)) (loadOf f).1 j).isSome = true) ∧ (k = 64 ∨ recOf (s.get (k : Int)) (loadOf f).1 k = none) ∧ 0 ≤ (loadOf f).1 ∧ (loadOf f).1 < 4294967296
theorem lrows_base {w : World} {base base' : Nat} {v : Value} {bs : List (List Int)} (h : LRows w base' v bs) (hb : base ≤ base') : LRows w base v bs := by
  obtain ⟨SVs, hown, hels⟩ := h
  obtain ⟨h1, h2⟩ := hown
  refine ⟨SVs, ⟨h1, ?_⟩, fun j hj => ?_⟩
  · rcases h2 with h2 | ⟨g, cap, cur, e1, e2, e3⟩
    · exact .inl h2
    · exact .inr ⟨g, cap, cur, e1, by omega, e3⟩
  · obtain ⟨g, c, l, e1, e2, e3, e4⟩ := hels j hj
    exact ⟨g, c, l, e1, e2, by omega, e4⟩
set_option maxRecDepth 100000 in
set_option maxHeartbeats 1000000 in
theorem jopen_any {w0 w : World} {d : Nat} {ρ : Nat → Nat} {s : DSt} {f : Nat → List Int} (h : DL w0 w d ρ s) (hs : Says s f) :
    Calls Try.prog 17 #[.pointer (some ⟨d, 0, none⟩)] w (OpenPost w0 w d ρ s f) := by
  have hl := load_any h hs
  have hρ := own_lt_size h
  have hz := h.ch.size
  have HS := Lib.hid (And.intro hs (And.intro hρ hz))
  clear h hs hρ hz
  go_enter Try.func17, Try.ntmps17
  go_wp2_with fail
  refine hl.mono ?_
  rintro e w1 ⟨vb, rfl, hC1, h1, hv, g0, g1⟩
  have hr := replay_any (loadOf f).1 g0 g1 (by rw [HS.out.1.2.1]; decide) h1
  have H := Lib.hid (And.intro hC1 (And.intro hv (And.intro g0 g1)))
  obtain ⟨G, hG⟩ : ∃ G, G = (loadOf f).1 := ⟨_, rfl⟩
  have HG := Lib.hid hG
  rw [← hG] at hr g0 g1 ⊢
  clear hl hC1 hv h1 hG
  go_wp2_with fail
  refine hr.mono ?_
  intro e w2 hp
  obtain ⟨k, hk, q1, q2, v, rfl, hC, hL, hD⟩ := same_recs hp HS.out.1.1 (by rw [HS.out.1.2.1]; decide)
  obtain ⟨A, c, rfl⟩ := lrows_len hL
  rw [recs_len] at hL ⊢
  have fin : OpenPost w0 w d ρ s f (.returned (.tuple #[.pointer (some ⟨w2.heap.size, 0, none⟩), vb, .slice A k c, .int .i64 0])) (w2.alloc (.cells #[.pointer (some ⟨d, 0, none⟩), .int .u32 G, .int .i64 k, .bool false] 76)) := by
    have cA : Chg NoB w2 (w2.alloc (.cells #[.pointer (some ⟨d, 0, none⟩), .int .u32 G, .int .i64 k, .bool false] 76)) := (Chg.refl NoB w2).alloc _
    have cO : Chg (Own ρ) w1 (w2.alloc (.cells #[.pointer (some ⟨d, 0, none⟩), .int .u32 G, .int .i64 k, .bool false] 76)) := hC.trans cA (fun _ _ x => x.elim)
    have hlt1 : ∀ i, Own ρ i → i < w1.heap.size := fun i hi => by have := HS.out.2.1 i hi; have := H.out.1.size; omega
    have hzz : w.heap.size ≤ w1.heap.size := H.out.1.size
    have hz2 : w1.heap.size ≤ w2.heap.size := hC.size
    have hr0 : ρ w2.heap.size = 0 := by
      by_cases c : ρ w2.heap.size = 0
      · exact c
      · have := HS.out.2.1 _ c; omega
    have hGe := HG.out
    refine ⟨w2.heap.size, vb, A, k, c, rfl, ⟨hD.keep cA, ?_, hr0, by have := HS.out.2.2; omega⟩, H.out.1.trans cO (fun _ _ x => x), H.out.2.1.chg cO (fun i hi => by have := HS.out.2.1 i hi; omega), ?_, hk, ?_, ?_, H.out.2.2⟩
    · rw [← hGe]; exact bnew w2 _
    · rw [← hGe]; exact (lrows_base hL hzz).chg cA (fun _ x => x.elim)
    · rw [← hGe]; exact q1
    · rw [← hGe]; exact q2
  have F := Lib.hid fin
  clear fin hr hp hC hL hD q1 q2 H HG HS hk
  go_wp2_with fail
  (try simp only [Exit.inBlock, Exit.then])
  refine bodyPost_ret (results_tmp4 rfl _ _ _) rfl ?_
  exact F.out
end Go.Proofs.YtolojkfpokmdkaaRR.Jour

-- XJourC
namespace Go.Proofs.YtolojkfpokmdkaaRR.Jour
open Go.RowKit Go.Proofs.YtolojkfpokmdkaaRR.Hp Go.Proofs.YtolojkfpokmdkaaRR.By Go.Proofs.YtolojkfpokmdkaaRR.Disk Go.Proofs.YtolojkfpokmdkaaRR.Word Go.Proofs.YtolojkfpokmdkaaRR.WordP Go.Proofs.YtolojkfpokmdkaaRR.Log Go.Proofs.YtolojkfpokmdkaaRR.Slot
set_option linter.unusedVariables false
set_option linter.unusedSimpArgs false
theorem says_app {s : DSt} {f : Nat → List Int} (h : Says s f) (n : Nat) (hn : n < 192) (S : List Int) (hS : S.length = 64) : appE s (n : Int) S = 0 ∧ Says (appS s (n : Int) S) (fun j => if j = n then S else f j) := by
  obtain ⟨a1, a2⟩ := says_wr h n hn S hS
  obtain ⟨b1, b2, _⟩ := says_fl a2
  unfold appE appS
  rw [hS, if_pos a1, if_pos a1]
  exact ⟨b1, b2⟩
theorem load_congr {f f' : Nat → List Int} (h : ∀ j, 64 ≤ j → j < 96 → f j = f' j) : loadOf f = loadOf f' := by
  unfold loadOf
  rw [one_congr (f := f) (f' := f') (w := 0) (fun j a b => h j (by omega) (by omega)), one_congr (f := f) (f' := f') (w := 1) (fun j a b => h j (by omega) (by omega))]
theorem sum_zero : recOf (List.replicate 64 (0 : Int)) 0 0 = none := by decide +kernel
theorem saved_low (f : Nat → List Int) (gen : Int) (l : List Int) (j : Nat) (hj : j < 64) : savedF f gen l j = f j := by
  unfold savedF
  rcases aN_rng gen with ⟨a, b⟩ | ⟨a, b⟩
  · rw [if_neg (by omega), if_neg (by omega)]
  · rw [if_neg (by omega), if_neg (by omega)]
/-- how many records, where it is known what the sectors say -/
theorem stop_at {s : DSt} {f : Nat → List Int} {gen : Int} {k : Nat} (hs : Says s f) (hk : k ≤ 64) (q1 : ∀ j : Nat, j < k → (recOf (s.get (j : Int)) gen j).isSome = true) (q2 : k = 64 ∨ recOf (s.get (k : Int)) gen k = none) (n : Nat) (hn : n ≤ 64) (h1 : ∀ j, j < n → (recOf (f j) gen j).isSome = true) (h2 : n = 64 ∨ recOf (f n) gen n = none) : k = n :=
  stop_eq (f := fun j => s.get (j : Int)) hk hn q1 q2 (fun j hj => by show (recOf (s.get (j : Int)) gen j).isSome = true; rw [hs.2.2]; exact h1 j hj) (by
    rcases h2 with h2 | h2
    · exact .inl h2
    · right; show recOf (s.get (n : Int)) gen n = none; rw [hs.2.2]; exact h2)
/-- one byte, written in the text -/
theorem one_const (w1 : World) (b : Int) : Rd (w1.alloc (.cells #[.int .u8 b] 5 (1, 2))) .u8 (some ⟨w1.heap.size, 0, none⟩) [b] := ⟨by simp, fun _ => ⟨_, rfl, fun j hj => by
  have : j = 0 := by simpa using hj
  subst this
  rw [add0]
  exact (World.cell?_alloc_mark w1 #[.int .u8 b] 5 (1, 2) 0).trans rfl⟩⟩
end Go.Proofs.YtolojkfpokmdkaaRR.Jour

-- XSlotG
namespace Go.Proofs.YtolojkfpokmdkaaRR.Slot
open Go.RowKit Go.Proofs.YtolojkfpokmdkaaRR.Hp Go.Proofs.YtolojkfpokmdkaaRR.By Go.Proofs.YtolojkfpokmdkaaRR.Disk Go.Proofs.YtolojkfpokmdkaaRR.Word Go.Proofs.YtolojkfpokmdkaaRR.WordP Go.Proofs.YtolojkfpokmdkaaRR.Log
set_option linter.unusedVariables false
set_option linter.unusedSimpArgs false
/-- one work fails, behind k others -/
def FailsAt (s : DSt) (k : Nat) : Prop := s.num = ⟨(k : Int), 1, -1, false⟩ ∧ s.n = 192
theorem fa_work0 : (⟨((0 : Nat) : Int), 1, -1, false⟩ : DN).work = (⟨0, 0, -1, false⟩, 6) := rfl
theorem fa_work (k : Nat) : (⟨((k + 1 : Nat) : Int), 1, -1, false⟩ : DN).work = (⟨(k : Int), 1, -1, false⟩, 0) := by
  unfold DN.work
  rw [if_neg (by simp)]
  have e : ((k + 1 : Nat) : Int) - 1 = (k : Int) := by omega
  simp only [show ¬ ((0 : Int) < -1) by decide, if_false, show (0 : Int) < ((k + 1 : Nat) : Int) by omega, if_true, e]
theorem fa_wr0 {s : DSt} (h : FailsAt s 0) (n : Nat) (hn : n < 192) : s.wrE (n : Int) 64 = 6 := by
  unfold DSt.wrE DSt.ioE
  rw [if_pos rfl, if_pos ⟨by omega, by rw [h.2]; omega⟩, h.1, fa_work0]
theorem fa_wr {s : DSt} {k : Nat} (h : FailsAt s (k + 1)) (n : Nat) (hn : n < 192) (S : List Int) (hS : S.length = 64) : s.wrE (n : Int) 64 = 0 ∧ FailsAt (s.wr (n : Int) S) k := by
  have e1 : s.ioE (n : Int) = 0 := by unfold DSt.ioE; rw [if_pos ⟨by omega, by rw [h.2]; omega⟩, h.1, fa_work]
  have e2 : s.io (n : Int) = { s with num := ⟨(k : Int), 1, -1, false⟩ } := by rw [io_in (by omega) (by rw [h.2]; omega), h.1, fa_work]
  refine ⟨by unfold DSt.wrE; rw [if_pos rfl]; exact e1, ?_⟩
  unfold DSt.wr
  rw [if_pos hS, if_pos e1, e2]
  exact ⟨rfl, h.2⟩
theorem fa_fl0 {s : DSt} (h : FailsAt s 0) : s.flE = 6 := by unfold DSt.flE; rw [h.1, fa_work0]
theorem fa_fl {s : DSt} {k : Nat} (h : FailsAt s (k + 1)) : s.flE = 0 ∧ FailsAt s.fl k := by
  have e : s.flE = 0 := by unfold DSt.flE; rw [h.1, fa_work]
  refine ⟨e, ?_⟩
  unfold DSt.fl
  have e2 : s.num.work.2 = 0 := e
  rw [if_pos e2, h.1, fa_work]
  exact ⟨rfl, h.2⟩
theorem fa_wrN {s : DSt} {a : Nat} {pg : Nat → List Int} (hp : ∀ k, (pg k).length = 64) : ∀ (j k : Nat), a + 1 + j ≤ 192 → FailsAt s (k + j) → (∀ i, i < j → (wrN s a pg i).wrE ((a : Int) + 1 + i) 64 = 0) ∧ FailsAt (wrN s a pg j) k
  | 0, k, _, h => ⟨fun i hi => by omega, h⟩
  | j + 1, k, ha, h => by
    obtain ⟨h1, h2⟩ := fa_wrN (a := a) hp j (k + 1) (by omega) (by rw [show k + 1 + j = k + (j + 1) by omega]; exact h)
    obtain ⟨h3, h4⟩ := fa_wr h2 (a + 1 + j) (by omega) (pg j) (hp j)
    have e : ((a + 1 + j : Nat) : Int) = (a : Int) + 1 + j := by omega
    rw [e] at h3 h4
    refine ⟨fun i hi => ?_, h4⟩
    by_cases c : i < j
    · exact h1 i c
    · obtain rfl : i = j := by omega
      exact h3
theorem saves_fail {s s' : DSt} {gen E : Int} {l : List Int} {k : Nat} (h : FailsAt s k) (hk : k ≤ 2) (hl : l.length ≤ 960) (hS : Saves s gen l E s') : E = 6 := by
  have hp := pagesN_le hl
  have ha := aN_rng gen
  by_cases c : k < pagesN l
  · obtain ⟨w1, w2⟩ := fa_wrN (s := s) (a := aN gen) (page_len l) k 0 (by omega) (by rw [Nat.zero_add]; exact h)
    have w3 := fa_wr0 w2 (aN gen + 1 + k) (by omega)
    rw [show ((aN gen + 1 + k : Nat) : Int) = (aN gen : Int) + 1 + k by omega] at w3
    rw [← aN_eq] at w1 w3
    rcases hS with ⟨k', hk', h1, h2, h3, _⟩ | ⟨h1, _⟩
    · rcases Nat.lt_trichotomy k' k with q | q | q
      · exact absurd (by rw [← h2]; exact w1 k' q) h3
      · subst q; rw [← h2]; exact w3
      · have := h1 k q; rw [w3] at this; cases this
    · have := h1 k c; rw [w3] at this; cases this
  · obtain ⟨w1, w2⟩ := fa_wrN (s := s) (a := aN gen) (page_len l) (pagesN l) (k - pagesN l) (by omega) (by rw [show k - pagesN l + pagesN l = k by omega]; exact h)
    rw [← aN_eq] at w1 w2
    rcases hS with ⟨k', hk', h1, h2, h3, _⟩ | ⟨_, hS⟩
    · exact absurd (by rw [← h2]; exact w1 k' hk') h3
    · generalize wrN s (slotAt gen) (page l) (pagesN l) = s1 at *
      obtain ⟨m, hm⟩ : ∃ m, m = k - pagesN l := ⟨_, rfl⟩
      rw [← hm] at w2
      have hm2 : m = 0 ∨ m = 1 ∨ m = 2 := by omega
      rcases hm2 with rfl | rfl | rfl
      · rcases hS with ⟨h1, _⟩ | ⟨h1, _⟩
        · rw [← h1]; exact fa_fl0 w2
        · rw [fa_fl0 w2] at h1; cases h1
      · obtain ⟨f1, f2⟩ := fa_fl (k := 0) w2
        rcases hS with ⟨h1, h2, _⟩ | ⟨_, h1, _⟩
        · exact absurd (by rw [← h1]; exact f1) h2
        · rw [h1]
          have := fa_wr0 f2 (aN gen) (by omega)
          rw [← aN_eq] at this
          unfold appE
          rw [headL_len, this]; rfl
      · obtain ⟨f1, f2⟩ := fa_fl (k := 1) w2
        rcases hS with ⟨h1, h2, _⟩ | ⟨_, h1, _⟩
        · exact absurd (by rw [← h1]; exact f1) h2
        · rw [h1]
          obtain ⟨a1, a2⟩ := fa_wr (k := 0) f2 (aN gen) (by omega) (headL gen l) (headL_len gen l)
          rw [← aN_eq] at a1 a2
          unfold appE
          rw [headL_len, a1, if_pos rfl]
          exact fa_fl0 a2
/-- the first read does not do it -/
theorem one_err {w0 w : World} {d : Nat} {ρ : Nat → Nat} {s : DSt} (h : DL w0 w d ρ s) (he : s.ioE 64 ≠ 0) :
    Calls Try.prog 45 #[.pointer (some ⟨d, 0, none⟩), .int .u32 0] w fun e w' => e = .returned (.tuple #[.int .u32 0, .slice none 0 0, .bool false, .int .i64 (s.ioE 64)]) ∧ DL w0 w' d ρ (s.io 64) ∧ Chg (Own ρ) w w' := by
  have hat := fun w => at_any 0 w (by omega) (by omega)
  have hr := l_read 64 h
  have heb : (s.ioE 64 != 0) = true := by rw [bne_iff_ne]; exact he
  clear h he
  generalize hEE : s.ioE 64 = E at *
  have HEE := Lib.hid hEE
  clear hEE
  go_enter Try.func45, Try.ntmps45
  go_wp2_with fail
  refine (hat _).mono ?_
  rintro e w1 ⟨rfl, rfl⟩
  go_wp2_with fail
  refine hr.mono ?_
  rintro e w2 ⟨v, rfl, h2, hC2, _, _⟩
  rw [HEE.out]
  have fin := And.intro h2 hC2
  clear hr h2 hC2
  go_wp2_with fail
  (try simp only [Exit.inBlock, Exit.then])
  refine bodyPost_ret (results_tmp4 rfl _ _ _) rfl ?_
  exact ⟨rfl, fin⟩
theorem load_err {w0 w : World} {d : Nat} {ρ : Nat → Nat} {s : DSt} (h : DL w0 w d ρ s) (he : s.ioE 64 ≠ 0) :
    Calls Try.prog 33 #[.pointer (some ⟨d, 0, none⟩)] w fun e w' => e = .returned (.tuple #[.int .u32 0, .slice none 0 0, .int .i64 (s.ioE 64)]) ∧ DL w0 w' d ρ (s.io 64) ∧ Chg (Own ρ) w w' := by
  have ho := one_err h he
  have heb : (s.ioE 64 != 0) = true := by rw [bne_iff_ne]; exact he
  clear h he
  generalize s.ioE 64 = E at *
  go_enter Try.func33, Try.ntmps33
  go_wp2_with fail
  go_loopw [2, 3, 12] (fun g v i wr => g = .int .u32 0 ∧ v = .slice none 0 0 ∧ i = .int .u32 0 ∧ wr = w) (fun g v i wr => (2 - intOf i).toNat)
  case atStart => exact ⟨rfl, rfl, rfl, rfl⟩
  case round =>
    obtain ⟨rfl, rfl, rfl, rfl⟩ := hrel
    go_wp2_with fail
    refine ho.mono ?_
    rintro e w2 ⟨rfl, h2, hC2⟩
    have fin := And.intro h2 hC2
    clear ho h2 hC2
    go_wp2_with fail
    go_ret3
    exact ⟨rfl, fin⟩
theorem stp_dl {w0 w : World} {d : Nat} {ρ0 : Nat → Nat} {wr : World} {s' : DSt} (h : Stp w0 w d ρ0 wr s') : ∃ ρ, DL w0 wr d ρ s' := ⟨_, h.choose_spec.1⟩
theorem u8b4 {n : Int} (h : (Lit.int .u8 n).wf = true) : 0 ≤ n ∧ n ≤ 255 := by
  simp only [Lit.wf, Bool.and_eq_true, decide_eq_true_eq] at h
  have e1 : IntKind.u8.min = 0 := rfl
  have e2 : IntKind.u8.max = 255 := rfl
  omega
end Go.Proofs.YtolojkfpokmdkaaRR.Slot

-- XSlotH
namespace Go.Proofs.YtolojkfpokmdkaaRR.Slot
open Go.RowKit Go.Proofs.YtolojkfpokmdkaaRR.Hp Go.Proofs.YtolojkfpokmdkaaRR.By Go.Proofs.YtolojkfpokmdkaaRR.Disk Go.Proofs.YtolojkfpokmdkaaRR.Word Go.Proofs.YtolojkfpokmdkaaRR.WordP Go.Proofs.YtolojkfpokmdkaaRR.Log
set_option linter.unusedVariables false
set_option linter.unusedSimpArgs false
/-- bytes that came in, saved -/
theorem save_in {w0 w : World} {d : Nat} {ρ0 : Nat → Nat} {s : DSt} {f : Nat → List Int} (gen : Int) (A : Option Addr) (c : Nat) (l : List Int) (h : DL w0 w d ρ0 s) (hs : Says s f) (g0 : 0 ≤ gen) (g1 : gen < 4294967296) (hl : l.length ≤ 960) (hr : Rd w0 .u8 A l) (hcap : l.length ≤ c) (hb : Bytes l) :
    Calls Try.prog 50 #[.pointer (some ⟨d, 0, none⟩), .int .u32 gen, .slice A l.length c] w fun e w' => e = .returned (.int .i64 0) ∧ ∃ s', Says s' (savedF f gen l) ∧ s'.looseL = [] ∧ Stp w0 w d ρ0 w' s' :=
  save_says gen A c l h hs g0 g1 hl (hr.chg h.ch (fun _ _ _ x => x)) (fun hp ad e x => by
    have q1 := hr.lt hp ad e
    have q2 := h.nw _ x
    omega) hcap hb
theorem load_saved {f : Nat → List Int} {g : Int} {l : List Int} (g0 : 0 ≤ g) (g1 : g < 4294967296) (hl : l.length ≤ 960) (w : Nat) (h2 : w < 2) (hw : (w : Int) = g % 2) (h3 : ∀ q, oneOf f (1 - w) = some q → q.1 < g) : loadOf (savedF f g l) = (g, l) :=
  load_two w h2 g0 (one_saved f g l g0 g1 hl w hw) (fun q hq => by
    rw [one_other f g l hl (1 - w) (by omega) (by omega)] at hq
    exact h3 q hq)
theorem turns (gen : Int) (a b c : List Int) (t : Bool) (g0 : 0 ≤ gen) (g1 : gen ≤ 2147483648) (ha : a.length ≤ 960) (hb : b.length ≤ 960) (hc : c.length ≤ 960) (F : Nat → List Int)
    (hF : F = if t then savedF (savedF (fun _ => List.replicate 64 0) (gen + 1) b) gen a else savedF (savedF (fun _ => List.replicate 64 0) gen a) (gen + 1) b) :
    loadOf F = (gen + 1, b) ∧ loadOf (savedF F (gen + 1) c) = (gen + 1, c) := by
  obtain ⟨w, hw2, hw⟩ : ∃ w : Nat, w < 2 ∧ (w : Int) = (gen + 1) % 2 := ⟨((gen + 1) % 2).toNat, by omega, by omega⟩
  have hv : ((1 - w : Nat) : Int) = gen % 2 := by omega
  have o0 : oneOf F (1 - w) = some (gen, a) ∧ oneOf F w = some (gen + 1, b) := by
    rw [hF]
    cases t with
    | true =>
      refine ⟨one_saved _ gen a g0 (by omega) ha (1 - w) hv, ?_⟩
      show oneOf (savedF (savedF (fun _ => List.replicate 64 0) (gen + 1) b) gen a) w = _
      rw [one_other _ gen a ha w hw2 (by omega)]
      exact one_saved _ (gen + 1) b (by omega) (by omega) hb w hw
    | false =>
      refine ⟨?_, one_saved _ (gen + 1) b (by omega) (by omega) hb w hw⟩
      show oneOf (savedF (savedF (fun _ => List.replicate 64 0) gen a) (gen + 1) b) (1 - w) = _
      rw [one_other _ (gen + 1) b hb (1 - w) (by omega) (by omega)]
      exact one_saved _ gen a g0 (by omega) ha (1 - w) hv
  have lt : ∀ q, oneOf F (1 - w) = some q → q.1 < gen + 1 := fun q hq => by
    rw [o0.1] at hq
    obtain rfl := Option.some.inj hq
    show gen < gen + 1
    omega
  exact ⟨load_two w hw2 (by omega) o0.2 lt, load_saved (by omega) (by omega) hc w hw2 hw lt⟩
/-- bytes that lie apart from a disk -/
def KeptB (w : World) (ρ : Nat → Nat) (v : Value) (b : List Int) : Prop := ∃ A c, v = .slice A b.length c ∧ b.length ≤ c ∧ Rd w .u8 A b ∧ Bytes b ∧ (0 < b.length → Off A (Own ρ))
theorem OwnB.kept {base : Nat} {w : World} {ρ : Nat → Nat} {v : Value} {b : List Int} (h : OwnB base w v b) (hρ : ∀ i, Own ρ i → i < base) : KeptB w ρ v b := by
  obtain ⟨A, c, rfl, h0, h1, h2, h3, _⟩ := h
  exact ⟨A, c, rfl, h0, h1, h3, fun _ ad e x => h2 ad e (hρ _ x)⟩
theorem KeptB.chg {w w' : World} {ρ : Nat → Nat} {v : Value} {b : List Int} (h : KeptB w ρ v b) (hc : Chg (Own ρ) w w') : KeptB w' ρ v b := by
  obtain ⟨A, c, rfl, h0, h1, h2, h3⟩ := h
  exact ⟨A, c, rfl, h0, h1.chg hc h3, h2, h3⟩
theorem KeptB.keep {w w' : World} {ρ : Nat → Nat} {v : Value} {b : List Int} (h : KeptB w ρ v b) (hc : Chg NoB w w') : KeptB w' ρ v b := by
  obtain ⟨A, c, rfl, h0, h1, h2, h3⟩ := h
  exact ⟨A, c, rfl, h0, h1.chg hc (fun _ _ _ x => x), h2, h3⟩
theorem KeptB.stp {w w' : World} {ρ ρ' : Nat → Nat} {v : Value} {b : List Int} (h : KeptB w ρ v b) (hc : Chg (Own ρ) w w') (hz : ∀ i, i < w.heap.size → ρ i = 0 → ρ' i = 0) : KeptB w' ρ' v b := by
  obtain ⟨A, c, rfl, h0, h1, h2, h3⟩ := h
  refine ⟨A, c, rfl, h0, h1.chg hc h3, h2, fun hp ad e x => ?_⟩
  have := hz ad.block (h1.lt hp ad e) (by
    by_cases cc : ρ ad.block = 0
    · exact cc
    · exact absurd cc (h3 hp ad e))
  exact x this
theorem u32b8 {n : Int} (h : (Lit.int .u32 n).wf = true) : 0 ≤ n ∧ n < 4294967296 := by
  simp only [Lit.wf, Bool.and_eq_true, decide_eq_true_eq] at h
  have e1 : IntKind.u32.min = 0 := rfl
  have e2 : IntKind.u32.max = 4294967295 := rfl
  omega
end Go.Proofs.YtolojkfpokmdkaaRR.Slot

-- XJourD
namespace Go.Proofs.YtolojkfpokmdkaaRR.Jour
open Go.RowKit Go.Proofs.YtolojkfpokmdkaaRR.Hp Go.Proofs.YtolojkfpokmdkaaRR.By Go.Proofs.YtolojkfpokmdkaaRR.Disk Go.Proofs.YtolojkfpokmdkaaRR.Word Go.Proofs.YtolojkfpokmdkaaRR.WordP Go.Proofs.YtolojkfpokmdkaaRR.Log Go.Proofs.YtolojkfpokmdkaaRR.Slot
set_option linter.unusedVariables false
set_option linter.unusedSimpArgs false
theorem wr_get (s : DSt) (n : Int) (l : List Int) (j : Nat) (h : j ≠ n.toNat) : (s.wr n l).get (j : Int) = s.get (j : Int) := by
  have io : (s.io n).get (j : Int) = s.get (j : Int) := by unfold DSt.io; split <;> rfl
  unfold DSt.wr
  split
  · split
    · rw [get_put_ne _ _ _ (by omega)]; exact io
    · exact io
  · rfl
theorem fl_get (s : DSt) (j : Nat) : s.fl.get (j : Int) = s.get (j : Int) := by
  unfold DSt.fl
  split
  · rfl
  · rfl
theorem wrN_get (s : DSt) (a : Nat) (pg : Nat → List Int) (j : Nat) : ∀ k, ¬ (a + 1 ≤ j ∧ j < a + 1 + k) → (wrN s a pg k).get (j : Int) = s.get (j : Int)
  | 0, _ => rfl
  | k + 1, h => by
    show ((wrN s a pg k).wr ((a : Int) + 1 + k) (pg k)).get (j : Int) = _
    rw [wr_get _ _ _ _ (by omega)]
    exact wrN_get s a pg j k (by omega)
theorem saves_get {s s' : DSt} {gen E : Int} {l : List Int} (hl : l.length ≤ 960) (h : Saves s gen l E s') (j : Nat) (hj : ¬ (aN gen ≤ j ∧ j ≤ aN gen + 15)) : s'.get (j : Int) = s.get (j : Int) := by
  have hp := pagesN_le hl
  have ea := aN_eq gen
  have wg : ∀ k, k ≤ 15 → (wrN s (slotAt gen) (page l) k).get (j : Int) = s.get (j : Int) := fun k hk => by rw [ea]; exact wrN_get s (aN gen) (page l) j k (by omega)
  rcases h with ⟨k, hk, _, _, _, rfl⟩ | ⟨_, h⟩
  · exact wg _ (by omega)
  · rcases h with ⟨_, _, rfl⟩ | ⟨_, _, rfl⟩
    · rw [fl_get]; exact wg _ hp
    · unfold appS
      split
      · rw [fl_get, wr_get _ _ _ _ (by omega), fl_get]; exact wg _ hp
      · rw [wr_get _ _ _ _ (by omega), fl_get]; exact wg _ hp
theorem fa_wr0n {s : DSt} (h : FailsAt s 0) (n : Nat) (hn : n < 192) (S : List Int) (hS : S.length = 64) : Disk.Calm (s.wr (n : Int) S) := by
  have e1 : s.ioE (n : Int) = 6 := by unfold DSt.ioE; rw [if_pos ⟨by omega, by rw [h.2]; omega⟩, h.1, fa_work0]
  unfold DSt.wr
  rw [if_pos hS, if_neg (by rw [e1]; decide), io_in (by omega) (by rw [h.2]; omega), h.1, fa_work0]
  rfl
theorem fa_fl0n {s : DSt} (h : FailsAt s 0) : Disk.Calm s.fl := by
  unfold DSt.fl
  rw [h.1, fa_work0, if_neg (by decide)]
  rfl
theorem saves_fail_calm {s s' : DSt} {gen E : Int} {l : List Int} {k : Nat} (h : FailsAt s k) (hk : k ≤ 2) (hl : l.length ≤ 960) (hS : Saves s gen l E s') : Disk.Calm s' := by
  have hp := pagesN_le hl
  have ha := aN_rng gen
  by_cases c : k < pagesN l
  · obtain ⟨w1, w2⟩ := fa_wrN (s := s) (a := aN gen) (page_len l) k 0 (by omega) (by rw [Nat.zero_add]; exact h)
    have w3 := fa_wr0 w2 (aN gen + 1 + k) (by omega)
    have w4 := fa_wr0n w2 (aN gen + 1 + k) (by omega) (page l k) (page_len l k)
    rw [show ((aN gen + 1 + k : Nat) : Int) = (aN gen : Int) + 1 + k by omega] at w3 w4
    rw [← aN_eq] at w1 w3 w4
    rcases hS with ⟨k', hk', h1, h2, h3, rfl⟩ | ⟨h1, _⟩
    · rcases Nat.lt_trichotomy k' k with q | q | q
      · exact absurd (by rw [← h2]; exact w1 k' q) h3
      · subst q; exact w4
      · have := h1 k q; rw [w3] at this; cases this
    · have := h1 k c; rw [w3] at this; cases this
  · obtain ⟨w1, w2⟩ := fa_wrN (s := s) (a := aN gen) (page_len l) (pagesN l) (k - pagesN l) (by omega) (by rw [show k - pagesN l + pagesN l = k by omega]; exact h)
    rw [← aN_eq] at w1 w2
    rcases hS with ⟨k', hk', h1, h2, h3, _⟩ | ⟨_, hS⟩
    · exact absurd (by rw [← h2]; exact w1 k' hk') h3
    · generalize wrN s (slotAt gen) (page l) (pagesN l) = s1 at *
      obtain ⟨m, hm⟩ : ∃ m, m = k - pagesN l := ⟨_, rfl⟩
      rw [← hm] at w2
      have hm2 : m = 0 ∨ m = 1 ∨ m = 2 := by omega
      rcases hm2 with rfl | rfl | rfl
      · rcases hS with ⟨_, _, rfl⟩ | ⟨h1, _⟩
        · exact fa_fl0n w2
        · rw [fa_fl0 w2] at h1; cases h1
      · obtain ⟨f1, f2⟩ := fa_fl (k := 0) w2
        rcases hS with ⟨h1, h2, _⟩ | ⟨_, _, rfl⟩
        · exact absurd (by rw [← h1]; exact f1) h2
        · have e := fa_wr0 f2 (aN gen) (by omega)
          have e2 := fa_wr0n f2 (aN gen) (by omega) (headL gen l) (headL_len gen l)
          rw [← aN_eq] at e e2
          unfold appS
          rw [headL_len, if_neg (by rw [e]; decide)]
          exact e2
      · obtain ⟨f1, f2⟩ := fa_fl (k := 1) w2
        rcases hS with ⟨h1, h2, _⟩ | ⟨_, _, rfl⟩
        · exact absurd (by rw [← h1]; exact f1) h2
        · obtain ⟨a1, a2⟩ := fa_wr (k := 0) f2 (aN gen) (by omega) (headL gen l) (headL_len gen l)
          rw [← aN_eq] at a1 a2
          unfold appS
          rw [headL_len, a1, if_pos rfl]
          exact fa_fl0n a2
/-- an append on a calm disk: all is sure -/
theorem app_firmly {s : DSt} {f : Nat → List Int} (h : Says s f) (n : Nat) (hn : n < 192) (S : List Int) (hS : S.length = 64) : Firm (appS s (n : Int) S) (fun j => if j = n then S else f j) := by
  obtain ⟨a, b⟩ := app_calm h.1 (n := (n : Int)) (by omega) (by rw [h.2.1]; omega) hS
  obtain ⟨_, c⟩ := says_app h n hn S hS
  refine ⟨c.2.1, fun j => ?_, fun j => ?_⟩
  · rw [← c.2.2 j, b]; rfl
  · rw [b]; rfl
end Go.Proofs.YtolojkfpokmdkaaRR.Jour

-- XJourE
namespace Go.Proofs.YtolojkfpokmdkaaRR.Jour
open Go.RowKit Go.Proofs.YtolojkfpokmdkaaRR.Hp Go.Proofs.YtolojkfpokmdkaaRR.By Go.Proofs.YtolojkfpokmdkaaRR.Disk Go.Proofs.YtolojkfpokmdkaaRR.Word Go.Proofs.YtolojkfpokmdkaaRR.WordP Go.Proofs.YtolojkfpokmdkaaRR.Log Go.Proofs.YtolojkfpokmdkaaRR.Slot
set_option linter.unusedVariables false
set_option linter.unusedSimpArgs false
theorem rows_one (W : World) (C : Option Addr) (cc : Nat) (l : List Int) (T : TypeId) (h : Rd W .u8 C l) : Log.Rows (W.alloc (.cells #[.slice C l.length cc] T)) (some ⟨W.heap.size, 0, none⟩) [l] := fun j hj => by
  have : j = 0 := by simpa using hj
  subst this
  exact ⟨_, C, cc, rfl, by rw [add0, bcell (bnew W _)]; rfl, h.chg ((Chg.refl NoB W).alloc _) (fun _ _ _ x => x)⟩
theorem failing_at {s : DSt} {f : Nat → List Int} (h : Says s f) (k : Nat) : FailsAt (s.failing (k : Int) 1) k := by
  have e : s.num = ⟨0, 0, -1, false⟩ := h.1
  refine ⟨?_, h.2.1⟩
  unfold DSt.failing
  rw [e, if_neg (by omega)]; rfl
theorem u8b6 {n : Int} (h : (Lit.int .u8 n).wf = true) : 0 ≤ n ∧ n ≤ 255 := by
  simp only [Lit.wf, Bool.and_eq_true, decide_eq_true_eq] at h
  have e1 : IntKind.u8.min = 0 := rfl
  have e2 : IntKind.u8.max = 255 := rfl
  omega
end Go.Proofs.YtolojkfpokmdkaaRR.Jour

-- XJourF
namespace Go.Proofs.YtolojkfpokmdkaaRR.Jour
open Go.RowKit Go.Proofs.YtolojkfpokmdkaaRR.Hp Go.Proofs.YtolojkfpokmdkaaRR.By Go.Proofs.YtolojkfpokmdkaaRR.Disk Go.Proofs.YtolojkfpokmdkaaRR.Word Go.Proofs.YtolojkfpokmdkaaRR.WordP Go.Proofs.YtolojkfpokmdkaaRR.Log Go.Proofs.YtolojkfpokmdkaaRR.Slot
set_option linter.unusedVariables false
set_option linter.unusedSimpArgs false
theorem num_zero {gen n : Int} (h : 0 < n ∧ n < 4294967296) : recOf (List.replicate 64 0) gen n = none := by
  cases e : recOf (List.replicate 64 0) gen n with
  | none => rfl
  | some b =>
    obtain ⟨h1, h2⟩ := rec_some e
    have a := sec_num gen n b h2
    rw [h1] at a
    have z : ((List.replicate 64 (0 : Int)).drop 4).take 4 = digs 0 4 := by decide
    rw [z] at a
    have := digs_inj (by omega) (by omega) a
    omega
theorem none_zero {gen : Int} (g : 0 ≤ gen ∧ gen < 4294967296) (n : Nat) (hn : n < 4294967296) : recOf (List.replicate 64 0) gen n = none := by
  by_cases c : 0 < gen
  · exact rec_zero ⟨c, g.2⟩
  · obtain rfl : gen = 0 := by omega
    by_cases c2 : n = 0
    · subst c2; exact sum_zero
    · exact num_zero (by omega)
theorem getD_snoc {α : Type} (ws : List α) (p z : α) (j : Nat) : (ws ++ [p]).getD j z = if j = ws.length then p else ws.getD j z := by
  rw [List.getD_eq_getElem?_getD, List.getD_eq_getElem?_getD]
  by_cases c : j < ws.length
  · rw [List.getElem?_append_left c, if_neg (by omega)]
  · by_cases c2 : j = ws.length
    · subst c2
      rw [List.getElem?_append_right (by omega), if_pos rfl]; simp
    · rw [List.getElem?_append_right (by omega), if_neg c2, List.getElem?_eq_none (by simp; omega), List.getElem?_eq_none (by omega)]
/-- the two slots -/
def Two (f : Nat → List Int) (gen : Int) (now : List Int) : Prop :=
  0 ≤ gen ∧ (gen = 0 → now = [] ∧ ∀ j, 64 ≤ j → j < 96 → f j = List.replicate 64 0) ∧ (0 < gen → ∀ w : Nat, w < 2 → (w : Int) = gen % 2 → oneOf f w = some (gen, now) ∧ (f (64 + 16 * (1 - w)) = List.replicate 64 0 ∨ ∃ b, f (64 + 16 * (1 - w)) = headL (gen - 1) b))
theorem two_load {f : Nat → List Int} {gen : Int} {now : List Int} (h : Two f gen now) (g1 : gen < 4294967296) : loadOf f = (gen, now) := by
  obtain ⟨h2, h3, h4⟩ := h
  by_cases c : gen = 0
  · obtain ⟨rfl, hz⟩ := h3 c
    subst c
    rw [← load_zero]; exact load_congr hz
  · obtain ⟨w, hw2, hw⟩ : ∃ w : Nat, w < 2 ∧ (w : Int) = gen % 2 := ⟨(gen % 2).toNat, by omega, by omega⟩
    obtain ⟨o1, o2⟩ := h4 (by omega) w hw2 hw
    refine load_two w hw2 h2 o1 fun q hq => ?_
    rcases o2 with o2 | ⟨b, o2⟩
    · rw [one_zeros (by omega) o2] at hq; cases hq
    · have := one_gen (g := gen - 1) (b := b) (by omega) (by omega) o2 hq
      omega
theorem two_next {f : Nat → List Int} {gen : Int} {now l : List Int} (h : Two f gen now) (g1 : gen + 1 < 4294967296) (hl : l.length ≤ 960) : Two (savedF f (gen + 1) l) (gen + 1) l := by
  obtain ⟨h2, h3, h4⟩ := h
  refine ⟨by omega, fun x => by omega, fun _ w hw2 hw => ⟨one_saved f (gen + 1) l (by omega) g1 hl w hw, ?_⟩⟩
  have hp := pagesN_le hl
  have e : savedF f (gen + 1) l (64 + 16 * (1 - w)) = f (64 + 16 * (1 - w)) := by
    unfold savedF
    rcases aN_rng (gen + 1) with ⟨a, b⟩ | ⟨a, b⟩
    · rw [if_neg (by omega), if_neg (by omega)]
    · rw [if_neg (by omega), if_neg (by omega)]
  rw [e]
  by_cases c : gen = 0
  · exact .inl ((h3 c).2 _ (by omega) (by omega))
  · obtain ⟨o1, _⟩ := h4 (by omega) (1 - w) (by omega) (by omega)
    refine .inr ⟨now, ?_⟩
    have := one_head o1
    rw [this]
    show headL gen now = headL (gen + 1 - 1) now
    congr 1; omega
theorem two_congr {f f' : Nat → List Int} {gen : Int} {now : List Int} (h : Two f gen now) (he : ∀ j, 64 ≤ j → j < 96 → f' j = f j) : Two f' gen now := by
  obtain ⟨h2, h3, h4⟩ := h
  refine ⟨h2, fun c => ⟨(h3 c).1, fun j a b => by rw [he j a b]; exact (h3 c).2 j a b⟩, fun c w hw2 hw => ?_⟩
  obtain ⟨o1, o2⟩ := h4 c w hw2 hw
  refine ⟨by rw [one_congr (f' := f) (fun j a b => he j (by omega) (by omega))]; exact o1, ?_⟩
  rw [he _ (by omega) (by omega)]; exact o2
/-- the log: these records, and behind them older ones, or none -/
def LogOk (f : Nat → List Int) (gen : Int) (ws : List (List Int)) : Prop :=
  ws.length ≤ 64 ∧ (∀ p ∈ ws, p.length ≤ 50) ∧ (∀ j, j < ws.length → f j = secL gen j (ws.getD j [])) ∧ ∀ j, ws.length ≤ j → j < 64 → f j = List.replicate 64 0 ∨ ∃ (g' : Int) (p : List Int), 0 ≤ g' ∧ g' < gen ∧ p.length ≤ 50 ∧ f j = secL g' j p
theorem log_new (gen : Int) : LogOk (fun _ => List.replicate 64 0) gen [] := ⟨by simp, fun p hp => (by cases hp), fun j hj => by simp at hj, fun j _ _ => .inl rfl⟩
theorem log_app {f : Nat → List Int} {gen : Int} {ws : List (List Int)} (h : LogOk f gen ws) (p : List Int) (hp : p.length ≤ 50) (hl : ws.length < 64) : LogOk (fun j => if j = ws.length then secL gen ws.length p else f j) gen (ws ++ [p]) := by
  obtain ⟨h1, h2, h3, h4⟩ := h
  refine ⟨by simp; omega, fun q hq => ?_, fun j hj => ?_, fun j hj hj2 => ?_⟩
  · rcases List.mem_append.mp hq with hq | hq
    · exact h2 q hq
    · rw [List.mem_singleton] at hq; subst hq; exact hp
  · rw [List.length_append, List.length_singleton] at hj
    rw [getD_snoc]
    show (if j = ws.length then secL gen ws.length p else f j) = _
    by_cases c : j = ws.length
    · rw [if_pos c, if_pos c, c]
    · rw [if_neg c, if_neg c]; exact h3 j (by omega)
  · rw [List.length_append, List.length_singleton] at hj
    show (if j = ws.length then secL gen ws.length p else f j) = _ ∨ ∃ (g' : Int) (q : List Int), 0 ≤ g' ∧ g' < gen ∧ q.length ≤ 50 ∧ (if j = ws.length then secL gen ws.length p else f j) = secL g' j q
    rw [if_neg (by omega)]
    exact h4 j (by omega) hj2
theorem log_next {f f' : Nat → List Int} {gen : Int} {ws : List (List Int)} (g0 : 0 ≤ gen) (h : LogOk f gen ws) (he : ∀ j, j < 64 → f' j = f j) : LogOk f' (gen + 1) [] := by
  obtain ⟨h1, h2, h3, h4⟩ := h
  refine ⟨by simp, fun p hp => (by cases hp), fun j hj => by simp at hj, fun j _ hj => ?_⟩
  rw [he j hj]
  by_cases c : j < ws.length
  · exact .inr ⟨gen, ws.getD j [], g0, by omega, h2 _ (by rw [List.getD_eq_getElem?_getD, List.getElem?_eq_getElem c]; exact List.getElem_mem _), h3 j c⟩
  · rcases h4 j (by omega) hj with x | ⟨g', p, a, b, c', d⟩
    · exact .inl x
    · exact .inr ⟨g', p, a, by omega, c', d⟩
theorem log_some {f : Nat → List Int} {gen : Int} {ws : List (List Int)} (h : LogOk f gen ws) (j : Nat) (hj : j < ws.length) : recOf (f j) gen j = some (ws.getD j []) := by
  rw [h.2.2.1 j hj]
  exact rec_sec gen j _ (h.2.1 _ (by rw [List.getD_eq_getElem?_getD, List.getElem?_eq_getElem hj]; exact List.getElem_mem _))
theorem log_none {f : Nat → List Int} {gen : Int} {ws : List (List Int)} (g : 0 ≤ gen ∧ gen < 4294967296) (h : LogOk f gen ws) : ws.length = 64 ∨ recOf (f ws.length) gen ws.length = none := by
  by_cases c : ws.length = 64
  · exact .inl c
  · right
    rcases h.2.2.2 ws.length (Nat.le_refl _) (by have := h.1; omega) with x | ⟨g', p, a, b, c', d⟩
    · rw [x]; exact none_zero g _ (by have := h.1; omega)
    · rw [d]; exact rec_other c' ⟨a, by omega⟩ g (by omega)
theorem log_recs {s : DSt} {f : Nat → List Int} {gen : Int} {ws : List (List Int)} (h : LogOk f gen ws) (hs : Says s f) : recs s gen ws.length = ws := by
  have hl : (recs s gen ws.length).length = ws.length := recs_len _ _ _
  apply List.ext_getElem?
  intro j
  by_cases c : j < ws.length
  · rw [recs_recsF]
    unfold recsF
    rw [List.getElem?_map, List.getElem?_range c]
    simp only [Option.map_some]
    rw [hs.2.2, log_some h j c, List.getD_eq_getElem?_getD, List.getElem?_eq_getElem c]; rfl
  · rw [List.getElem?_eq_none (by omega), List.getElem?_eq_none (by omega)]
theorem firm_says {s : DSt} {f : Nat → List Int} (h : Firm s f) (hc : Disk.Calm s) : Says s f := ⟨hc, h.1, fun j => by
  show (s.loose ((j : Nat) : Int).toNat).getD (s.sure ((j : Nat) : Int).toNat) = f j
  rw [Int.toNat_natCast, h.2.2 j]; exact h.2.1 j⟩
/-- a slice of the call's own, of slices of bytes that came in -/
def WRows (w0 wr : World) (v : Value) (ws : List (List Int)) : Prop :=
  ∃ SVs, wr.ownsRow w0.heap.size 38 1 v ws.length SVs ∧ ∀ j, j < ws.length → ∃ B c, SVs[j]? = some (.slice B (ws.getD j []).length c) ∧ Rd w0 .u8 B (ws.getD j [])
theorem WRows.nil (w0 w : World) : WRows w0 w (.slice none 0 0) [] := ⟨[], World.ownsRow_nil _ _ _ _, fun j hj => by cases hj⟩
theorem WRows.chg {S : Nat → Prop} {w0 w w' : World} {v : Value} {ws : List (List Int)} (h : WRows w0 w v ws) (hc : Chg S w w') (hS : ∀ g, v.ownBlock = some g → ¬ S g) : WRows w0 w' v ws := by
  obtain ⟨SVs, h1, h2⟩ := h
  exact ⟨SVs, own_chg h1 hc hS, h2⟩
theorem WRows.lt {w0 w : World} {v : Value} {ws : List (List Int)} (h : WRows w0 w v ws) (g : Nat) (hg : v.ownBlock = some g) : g < w.heap.size := by
  obtain ⟨SVs, h1, _⟩ := h
  exact own_lt h1 g hg
theorem WRows.rows {w0 w : World} {v : Value} {ws : List (List Int)} (h : WRows w0 w v ws) (hc : Chg NoB w0 w) : ∃ A c, v = .slice A ws.length c ∧ Log.Rows w A ws := by
  obtain ⟨SVs, hown, h2⟩ := h
  obtain ⟨A, c, hv, hcl⟩ := own_cells hown
  refine ⟨A, c, hv, fun j hj => ?_⟩
  obtain ⟨B, cB, e1, e2⟩ := h2 j hj
  obtain ⟨ad, e, hcell⟩ := hcl j _ e1
  exact ⟨ad, B, cB, e, hcell, e2.chg hc (fun _ _ _ x => x)⟩
theorem WRows.snoc {w0 w' : World} {v' : Value} {ws : List (List Int)} {SVs : List Value} {B : Option Addr} {c : Nat} {p : List Int}
    (hlen : SVs.length = ws.length) (h2 : ∀ j, j < ws.length → ∃ B c, SVs[j]? = some (.slice B (ws.getD j []).length c) ∧ Rd w0 .u8 B (ws.getD j [])) (hp : Rd w0 .u8 B p) (h' : w'.ownsRow w0.heap.size 38 1 v' (ws.length + 1) (SVs ++ [.slice B p.length c])) : WRows w0 w' v' (ws ++ [p]) := by
  refine ⟨_, by rw [List.length_append, List.length_singleton]; exact h', fun j hj => ?_⟩
  rw [List.length_append, List.length_singleton] at hj
  rw [getD_snoc]
  by_cases c1 : j = ws.length
  · subst c1
    rw [if_pos rfl]
    exact ⟨B, c, by rw [List.getElem?_append_right (by omega), hlen]; simp, hp⟩
  · rw [if_neg c1]
    obtain ⟨B', c', e1, e2⟩ := h2 j (by omega)
    exact ⟨B', c', by rw [List.getElem?_append_left (by omega)]; exact e1, e2⟩
theorem save_long (P : Option Addr) (gen : Int) (A : Option Addr) (len c : Nat) (w : World) (h : 960 < len) :
    Calls Try.prog 50 #[.pointer P, .int .u32 gen, .slice A len c] w fun e w' => e = .returned (.int .i64 1) ∧ w = w' := by
  cases P with
  | none =>
    clear h
    go_enter Try.func50, Try.ntmps50
    go_wp2_with fail
    go_ret
    exact ⟨rfl, rfl⟩
  | some ad =>
    go_enter Try.func50, Try.ntmps50
    go_wp2_with fail
    go_ret
    exact ⟨rfl, rfl⟩
theorem jreb_long {w0 w : World} {j d : Nat} {ρ : Nat → Nat} {s : DSt} {gen n : Int} {br : Bool} (h : JL w0 w j d ρ s gen n br) (V : Option Addr) (len c : Nat) (hl : 960 < len) : Calls Try.prog 38 #[.pointer (some ⟨j, 0, none⟩), .slice V len c] w fun e w' => e = .returned (.int .i64 1) ∧ JL w0 w' j d ρ s gen n br ∧ Chg NoB w w' := by
  obtain ⟨c0, c1, c2, c3⟩ := h.2.1.four
  have H := Lib.hid h
  have sb := save_long (some ⟨d, 0, none⟩) (IntKind.u32.wrap (gen + 1)) V len c w.drew hl
  clear h c2 c3
  go_enter Try.func38, Try.ntmps38
  go_wp2_with fail
  go_region_held3 (fun w' => w'.cell? ⟨j, 0, none⟩ = some (.pointer (some ⟨d, 0, none⟩)) ∧ w'.cell? ⟨j, 1, none⟩ = some (.int .u32 gen)) (first | go_keep | exact ⟨c0, c1⟩)
    (first | (go_at_call 50; ((with_reducible refine sb.mono ?_); rintro e w4 ⟨rfl, rfl⟩)))
  go_wp2_with fail
  go_ret
  exact ⟨rfl, H.out.keep ((Chg.refl NoB w).drew), (Chg.refl NoB w).drew⟩
structure ActV where
  base : Bool
  A : Option Addr
  len : Nat
  cap : Nat
  zs : List Int
def actCells (x : ActV) : List Value := [.bool x.base, .slice x.A x.len x.cap]
def ActAt (w : World) (ad : Addr) (i : Nat) (x : ActV) : Prop := (∀ j v, (actCells x)[j]? = some v → w.cell? (ad.add (i * 2 + j)) = some v) ∧ IsRow .u8 w x.A x.len x.cap x.zs
def IsActs (w : World) (A : Option Addr) (len cap : Nat) (X : Nat → ActV) : Prop := (A = none ∧ len = 0 ∧ cap = 0) ∨ ∃ ad, A = some ad ∧ len ≤ cap ∧ cap ≤ maxLen ∧ ∀ i, i < len → ActAt w ad i (X i)
section
variable {H : Type} {enc : TypeId × Value → H} {w : World} {base : Nat} {spare : Nat → Bool} {held : Bool}
theorem act_of (l : List Value) (n : Nat) (hl : l.length = 2) (hsp : ∀ b, spare b = true)
    (h0 : ∃ y, DataW.trod enc Try.prog w base spare held n 4 ((l.drop 0).take (Try.prog.cellsOf 4)) = some y) (h1 : ∃ y, DataW.trod enc Try.prog w base spare held n 38 ((l.drop 1).take (Try.prog.cellsOf 38)) = some y) :
    ∃ x : ActV, l = actCells x ∧ IsRow .u8 w x.A x.len x.cap x.zs := by
  rw [show Try.prog.cellsOf 4 = 1 by kernel_rfl] at h0
  rw [show Try.prog.cellsOf 38 = 1 by kernel_rfl] at h1
  match l, hl with
  | [c0, c1], _ =>
    obtain ⟨y0, h0⟩ := h0
    obtain ⟨y1, h1⟩ := h1
    obtain ⟨b0, e0, -⟩ := DataW.trod_bool Try.underlying4 h0
    obtain ⟨A, le, ca, zs, e4, hr⟩ := row_of_trod (v := c1) Try.underlying38 Try.underlying5 (by kernel_rfl) (by simpa using h1) hsp
    have f0 : c0 = .bool b0 := by simpa using e0
    exact ⟨⟨b0, A, le, ca, zs⟩, by rw [f0, e4]; rfl, hr⟩
end
theorem ActAt.two {w : World} {ad : Addr} {i : Nat} {x : ActV} (h : ActAt w ad i x) : w.cell? (ad.add (i * 2)) = some (.bool x.base) ∧ w.cell? ⟨(ad.add (i * 2)).block, (ad.add (i * 2)).off + 1, none⟩ = some (.slice x.A x.len x.cap) := by
  have h0 := h.1 0 _ rfl
  have h1 := h.1 1 _ rfl
  have e : ∀ k, 0 < k → ad.add (i * 2 + k) = ⟨(ad.add (i * 2)).block, (ad.add (i * 2)).off + k, none⟩ := fun k hk => by
    unfold Addr.add
    by_cases c : i * 2 = 0
    · have c2 : ¬ (i * 2 + k = 0) := by omega
      rw [if_neg c2, if_pos c]; simp [c]
    · have c2 : ¬ (i * 2 + k = 0) := by omega
      rw [if_neg c2, if_neg c]; simp [Nat.add_assoc]
  rw [e 1 (by decide)] at h1
  exact ⟨h0, h1⟩
end Go.Proofs.YtolojkfpokmdkaaRR.Jour

-- XJourG
namespace Go.Proofs.YtolojkfpokmdkaaRR.Jour
open Go.RowKit Go.Proofs.YtolojkfpokmdkaaRR.Hp Go.Proofs.YtolojkfpokmdkaaRR.By Go.Proofs.YtolojkfpokmdkaaRR.Disk Go.Proofs.YtolojkfpokmdkaaRR.Word Go.Proofs.YtolojkfpokmdkaaRR.WordP Go.Proofs.YtolojkfpokmdkaaRR.Log Go.Proofs.YtolojkfpokmdkaaRR.Slot
set_option linter.unusedVariables false
set_option linter.unusedSimpArgs false
def InV (w : World) (v : Value) (L : List Int) : Prop := ∃ A c, v = .slice A L.length c ∧ Rd w .u8 A L
/-- all that is known at a round's start -/
def JpS (w0 wr : World) (j d : Nat) (bv lv : Value) (m : Nat) (ρ : Nat → Nat) (s : DSt) (f : Nat → List Int) (gen : Int) (bs : List Int) (ws : List (List Int)) : Prop :=
  JL w0 wr j d ρ s gen ws.length false ∧ (Firm s f ∧ LenF f) ∧ Disk.Calm s ∧ Two f gen bs ∧ LogOk f gen ws ∧ gen ≤ m ∧ InV w0 bv bs ∧ WRows w0 wr lv ws ∧ ∀ g, lv.ownBlock = some g → ρ g = 0 ∧ g ≠ j
def JpB (w0 : World) (j d N : Nat) (bv lv i : Value) (wr : World) : Prop :=
  ∃ (m : Nat) (ρ : Nat → Nat) (s : DSt) (f : Nat → List Int) (gen : Int) (bs : List Int) (ws : List (List Int)), m ≤ N ∧ i = .int .i64 m ∧ JpS w0 wr j d bv lv m ρ s f gen bs ws
theorem JpS.keep {w0 wr w' : World} {j d : Nat} {bv lv : Value} {m : Nat} {ρ : Nat → Nat} {s : DSt} {f : Nat → List Int} {gen : Int} {bs : List Int} {ws : List (List Int)} (h : JpS w0 wr j d bv lv m ρ s f gen bs ws) (hc : Chg NoB wr w') : JpS w0 w' j d bv lv m ρ s f gen bs ws := by
  obtain ⟨a, b, c, e, f1, g, h1, h2, h3⟩ := h
  exact ⟨a.keep hc, b, c, e, f1, g, h1, h2.chg hc (fun _ _ x => x), h3⟩
theorem JpS.up {w0 wr : World} {j d : Nat} {bv lv : Value} {m : Nat} {ρ : Nat → Nat} {s : DSt} {f : Nat → List Int} {gen : Int} {bs : List Int} {ws : List (List Int)} (h : JpS w0 wr j d bv lv m ρ s f gen bs ws) : JpS w0 wr j d bv lv (m + 1) ρ s f gen bs ws := by
  obtain ⟨a, b, c, e, f1, g, h1, h2, h3⟩ := h
  exact ⟨a, b, c, e, f1, by push_cast; omega, h1, h2, h3⟩
/-- a Rebase, played -/
def RebTo (w0 w : World) (j d : Nat) (lv : Value) (m : Nat) (ρ : Nat → Nat) (gen : Int) (ws : List (List Int)) (V : Value) (l : List Int) (e : Ending) (w' : World) : Prop :=
  e = .returned (.int .i64 0) ∧ ∃ ρ' s' f', JpS w0 w' j d V (.slice none 0 0) (m + 1) ρ' s' f' (gen + 1) l [] ∧ Chg (fun i => Own ρ i ∨ i = j) w w'
theorem reb_play {w0 wr : World} {j d : Nat} {bv lv : Value} {m : Nat} {ρ : Nat → Nat} {s : DSt} {f : Nat → List Int} {gen : Int} {bs : List Int} {ws : List (List Int)} (h : JpS w0 wr j d bv lv m ρ s f gen bs ws) (hm : m ≤ 1000) (A : Option Addr) (c : Nat) (l : List Int) (hl : l.length ≤ 960) (hr : Rd w0 .u8 A l) (hcap : l.length ≤ c) (hb : Bytes l) :
    Calls Try.prog 38 #[.pointer (some ⟨j, 0, none⟩), .slice A l.length c] wr (RebTo w0 wr j d lv m ρ gen ws (.slice A l.length c) l) := by
  obtain ⟨hJ, hF, hc, hT, hL, hg, _, _, _⟩ := h
  have g0 := hT.1
  refine (jreb_any hJ hF.1.1 A c l g0 (by omega) hl (hr.chg hJ.1.ch (fun _ _ _ x => x)) (fun hp ad e x => by
    have q1 := hr.lt hp ad e
    have q2 := hJ.1.nw _ x
    omega) hcap hb).mono ?_
  rintro e w' ⟨E, s', rfl, hS, ρ', hJ', hC, _⟩
  obtain ⟨rfl, hs', _⟩ := save_calm (firm_says hF.1 hc) hl hS
  rw [if_pos rfl, if_pos rfl, if_pos rfl] at hJ'
  have hf := (saves_firm hF.1 hF.2 hl hS).1 rfl
  exact ⟨rfl, ρ', s', _, ⟨hJ', ⟨hf, lenF_saved hF.2 _ _⟩, hs'.1, two_next hT (by omega) hl, log_next g0 hL (fun k hk => saved_low f (gen + 1) l k hk), by push_cast; omega, ⟨A, c, rfl, hr⟩, WRows.nil _ _, fun g hg => by simp [Value.ownBlock] at hg⟩, hC⟩
/-- an Append, played -/
def AppTo (w0 w : World) (j d : Nat) (bv : Value) (m : Nat) (ρ : Nat → Nat) (gen : Int) (bs : List Int) (ws : List (List Int)) (l : List Int) (e : Ending) (w' : World) : Prop :=
  e = .returned (.int .i64 0) ∧ ∃ ρ' s' f', (JL w0 w' j d ρ' s' gen (ws.length + 1) false ∧ (Firm s' f' ∧ LenF f') ∧ Disk.Calm s' ∧ Two f' gen bs ∧ LogOk f' gen (ws ++ [l])) ∧ Chg (fun i => Own ρ i ∨ i = j) w w' ∧ ∀ i, i < w.heap.size → ρ i = 0 → ρ' i = 0
theorem app_play {w0 wr : World} {j d : Nat} {bv lv : Value} {m : Nat} {ρ : Nat → Nat} {s : DSt} {f : Nat → List Int} {gen : Int} {bs : List Int} {ws : List (List Int)} (h : JpS w0 wr j d bv lv m ρ s f gen bs ws) (hm : m ≤ 1000) (A : Option Addr) (c : Nat) (l : List Int) (hl : l.length ≤ 50) (hw : ws.length < 64) (hr : Rd w0 .u8 A l) (hb : Bytes l) :
    Calls Try.prog 37 #[.pointer (some ⟨j, 0, none⟩), .slice A l.length c] wr (AppTo w0 wr j d bv m ρ gen bs ws l) := by
  obtain ⟨hJ, hF, hc, hT, hL, hg, _, _, _⟩ := h
  have g0 := hT.1
  have hsl := secL_len gen (ws.length : Int) l hl
  have hs := firm_says hF.1 hc
  obtain ⟨a1, a2⟩ := says_app hs ws.length (by omega) (secL gen ws.length l) hsl
  have a3 := app_firmly hs ws.length (by omega) (secL gen ws.length l) hsl
  refine (japp_any hJ A c l g0 (by omega) (by omega) (by omega) hl (hr.chg hJ.1.ch (fun _ _ _ x => x)) hb).mono ?_
  rintro e w' ⟨rfl, ρ', hJ', hC, hz⟩
  rw [a1] at hJ' ⊢
  rw [if_pos rfl] at hJ'
  refine ⟨rfl, ρ', _, _, ⟨hJ', ⟨a3, fun k => ?_⟩, a2.1, two_congr hT (fun k k1 k2 => if_neg (by omega)), log_app hL l hl hw⟩, hC, hz⟩
  show (if k = ws.length then secL gen ws.length l else f k).length = 64
  by_cases ck : k = ws.length
  · rw [if_pos ck]; exact hsl
  · rw [if_neg ck]; exact hF.2 k
end Go.Proofs.YtolojkfpokmdkaaRR.Jour

-- XJourI
namespace Go.Proofs.YtolojkfpokmdkaaRR.Jour
open Go.RowKit Go.Proofs.YtolojkfpokmdkaaRR.Hp Go.Proofs.YtolojkfpokmdkaaRR.By Go.Proofs.YtolojkfpokmdkaaRR.Disk Go.Proofs.YtolojkfpokmdkaaRR.Word Go.Proofs.YtolojkfpokmdkaaRR.WordP Go.Proofs.YtolojkfpokmdkaaRR.Log Go.Proofs.YtolojkfpokmdkaaRR.Slot
set_option linter.unusedVariables false
set_option linter.unusedSimpArgs false
/-- what a sector may say behind a crash that tears nothing -/
def PV (s : DSt) (j : Nat) (v : List Int) : Prop := v = s.sure j ∨ s.loose j = some v
theorem pv_io {s : DSt} {n : Int} {j : Nat} {v : List Int} (h : PV (s.io n) j v) : PV s j v := by
  unfold DSt.io at h
  split at h
  · exact h
  · exact h
theorem pv_put {s : DSt} {n : Nat} {l : List Int} {j : Nat} {v : List Int} (h : PV (s.put n l) j v) : PV s j v ∨ (j = n ∧ v = l) := by
  rcases h with h | h
  · exact .inl (.inl h)
  · have h' : (if j = n then some l else s.loose j) = some v := h
    by_cases c : j = n
    · rw [if_pos c] at h'
      exact .inr ⟨c, (Option.some.inj h').symm⟩
    · rw [if_neg c] at h'
      exact .inl (.inr h')
theorem pv_wr {s : DSt} {n : Int} {l : List Int} {j : Nat} {v : List Int} (h : PV (s.wr n l) j v) : PV s j v ∨ (j = n.toNat ∧ v = l) := by
  unfold DSt.wr at h
  split at h
  · split at h
    · rcases pv_put h with h | h
      · exact .inl (pv_io h)
      · exact .inr h
    · exact .inl (pv_io h)
  · exact .inl h
theorem pv_sureAll {s : DSt} {j : Nat} {v : List Int} (h : PV s.sureAll j v) : PV s j v := by
  rcases h with h | h
  · have h' : v = (s.loose j).getD (s.sure j) := h
    cases e : s.loose j with
    | none => rw [e] at h'; exact .inl h'
    | some x => rw [e] at h'; exact .inr (by rw [e, h']; rfl)
  · exact absurd h (by simp [DSt.sureAll])
theorem pv_fl {s : DSt} {j : Nat} {v : List Int} (h : PV s.fl j v) : PV s j v := by
  unfold DSt.fl at h
  split at h
  · exact pv_sureAll (s := { s with num := s.num.work.1 }) h
  · exact h
theorem pv_app {s : DSt} {n : Int} {l : List Int} {j : Nat} {v : List Int} (h : PV (appS s n l) j v) : PV s j v ∨ (j = n.toNat ∧ v = l) := by
  unfold appS at h
  split at h
  · exact pv_wr (pv_fl h)
  · exact pv_wr h
theorem pv_wrN {s : DSt} {a : Nat} {pg : Nat → List Int} {j : Nat} {v : List Int} : ∀ k, PV (wrN s a pg k) j v → PV s j v ∨ (a + 1 ≤ j ∧ j < a + 1 + k ∧ ∃ i, v = pg i)
  | 0, h => .inl h
  | k + 1, h => by
    rcases pv_wr (s := wrN s a pg k) (n := (a : Int) + 1 + k) (l := pg k) h with h | ⟨h, h'⟩
    · rcases pv_wrN k h with h | h
      · exact .inl h
      · exact .inr ⟨h.1, by omega, h.2.2⟩
    · exact .inr ⟨by omega, by omega, k, h'⟩
theorem pv_saves {s s' : DSt} {gen E : Int} {l : List Int} (hl : l.length ≤ 960) (h : Saves s gen l E s') {j : Nat} {v : List Int} (hv : PV s' j v) : PV s j v ∨ (aN gen < j ∧ j ≤ aN gen + 15 ∧ v.length = 64) ∨ (j = aN gen ∧ v = headL gen l) := by
  have hp := pagesN_le hl
  have ea := aN_eq gen
  have wn : ∀ k, k ≤ 15 → PV (wrN s (slotAt gen) (page l) k) j v → PV s j v ∨ (aN gen < j ∧ j ≤ aN gen + 15 ∧ v.length = 64) := fun k hk h => by
    rw [ea] at h
    rcases pv_wrN k h with h | h
    · exact .inl h
    · obtain ⟨a, b, i, e⟩ := h
      exact .inr ⟨by omega, by omega, by rw [e]; exact page_len _ _⟩
  have up : (PV s j v ∨ (aN gen < j ∧ j ≤ aN gen + 15 ∧ v.length = 64)) → PV s j v ∨ (aN gen < j ∧ j ≤ aN gen + 15 ∧ v.length = 64) ∨ (j = aN gen ∧ v = headL gen l) := fun h => h.elim .inl (fun x => .inr (.inl x))
  rcases h with ⟨k, hk, _, _, _, rfl⟩ | ⟨_, h⟩
  · exact up (wn _ (by omega) hv)
  · rcases h with ⟨_, _, rfl⟩ | ⟨_, _, rfl⟩
    · exact up (wn _ hp (pv_fl hv))
    · rcases pv_app hv with hv | ⟨h1, h2⟩
      · exact up (wn _ hp (pv_fl hv))
      · exact .inr (.inr ⟨by omega, h2⟩)
theorem pv_crash {s : DSt} {keep torn : Int} {j : Nat} (hl : ∀ v, PV s j v → v.length = 64) : PV s j ((s.crash keep torn).get (j : Int)) ∨ (0 < torn ∧ torn < 64) := by
  have e : (s.crash keep torn).get (j : Int) = (if (crashAt keep s.looseL s.looseL.length).1 j then (s.loose j).getD (s.sure j) else if (crashAt keep s.looseL s.looseL.length).2 = some j then ((s.loose j).getD (s.sure j)).take (cut64 torn) ++ (s.sure j).drop (cut64 torn) else s.sure j) := rfl
  have hg : PV s j ((s.loose j).getD (s.sure j)) := by
    cases e : s.loose j with
    | none => exact .inl rfl
    | some x => exact .inr (by rw [e]; rfl)
  rw [e]
  by_cases c1 : (crashAt keep s.looseL s.looseL.length).1 j = true
  · rw [if_pos c1]; exact .inl hg
  · rw [if_neg c1]
    by_cases c2 : (crashAt keep s.looseL s.looseL.length).2 = some j
    · rw [if_pos c2]
      by_cases t0 : 0 < torn
      · by_cases t1 : torn < 64
        · exact .inr ⟨t0, t1⟩
        · have ec : cut64 torn = 64 := by unfold cut64; omega
          rw [ec, List.take_of_length_le (by have := hl _ hg; omega), List.drop_of_length_le (by have := hl _ (.inl rfl : PV s j (s.sure j)); omega), List.append_nil]
          exact .inl hg
      · have ec : cut64 torn = 0 := by unfold cut64; omega
        rw [ec, List.take_zero, List.drop_zero, List.nil_append]
        exact .inl (.inl rfl)
    · rw [if_neg c2]; exact .inl (.inl rfl)
end Go.Proofs.YtolojkfpokmdkaaRR.Jour

-- XJourJ
namespace Go.Proofs.YtolojkfpokmdkaaRR.Jour
open Go.RowKit Go.Proofs.YtolojkfpokmdkaaRR.Hp Go.Proofs.YtolojkfpokmdkaaRR.By Go.Proofs.YtolojkfpokmdkaaRR.Disk Go.Proofs.YtolojkfpokmdkaaRR.Word Go.Proofs.YtolojkfpokmdkaaRR.WordP Go.Proofs.YtolojkfpokmdkaaRR.Log Go.Proofs.YtolojkfpokmdkaaRR.Slot
set_option linter.unusedVariables false
set_option linter.unusedSimpArgs false
def Old (g : Int) (j : Nat) (v : List Int) : Prop := v = List.replicate 64 0 ∨ ∃ (g' : Int) (p : List Int), 0 ≤ g' ∧ g' < g ∧ p.length ≤ 50 ∧ v = secL g' j p
def OldHead (g : Int) (v : List Int) : Prop := v = List.replicate 64 0 ∨ (0 < g ∧ ∃ b, v = headL (g - 1) b)
structure JInv (s : DSt) (g : Int) (base : List Int) (ws AP : List (List Int)) (RB : List (List Int)) : Prop where
  n : s.n = 192
  len : ∀ j v, PV s j v → v.length = 64
  g0 : 0 ≤ g
  w64 : ws.length ≤ 64
  w50 : ∀ p ∈ ws, p.length ≤ 50
  a50 : ∀ p ∈ AP, p.length ≤ 50
  r960 : ∀ b ∈ RB, b.length ≤ 960
  recs : ∀ j v, j < ws.length → PV s j v → v = secL g j (ws.getD j [])
  rest : ∀ j v, ws.length ≤ j → j < 64 → PV s j v → Old g j v ∨ (j = ws.length ∧ ∃ p ∈ AP, v = secL g j p)
  slot : ∃ F : Nat → List Int, (∀ j v, aN g ≤ j → j < aN g + 16 → PV s j v → v = F j) ∧ (g = 0 → base = [] ∧ ∀ j, aN g ≤ j → j < aN g + 16 → F j = List.replicate 64 0) ∧ (0 < g → ∀ w : Nat, w < 2 → (w : Int) = g % 2 → oneOf F w = some (g, base))
  head : ∀ v, PV s (aN (g + 1)) v → OldHead g v ∨ ∃ b ∈ RB, v = headL (g + 1) b
theorem jinv_new (a b c : Int) : JInv (((DSt.new 192).failing a b).fusing c) 0 [] [] [] [] := by
  have hz : ∀ j v, PV (((DSt.new 192).failing a b).fusing c) j v → v = List.replicate 64 0 := fun j v h => by
    rcases h with h | h
    · exact h
    · exact absurd h (by simp [DSt.fusing, DSt.failing, DSt.new])
  exact ⟨rfl, fun j v h => by rw [hz j v h]; simp, Int.le_refl _, by simp, fun p hp => (by cases hp), fun p hp => (by cases hp), fun p hp => (by cases hp), fun j v hj => by simp at hj, fun j v _ _ h => .inl (.inl (hz j v h)), ⟨fun _ => List.replicate 64 0, fun j v _ _ h => hz j v h, fun _ => ⟨rfl, fun _ _ _ => rfl⟩, fun h => by omega⟩, fun v h => .inl (.inl (hz _ v h))⟩
theorem aN_other (g : Int) : aN (g + 1) + aN g = 144 := by
  rcases aN_rng g with ⟨a, b⟩ | ⟨a, b⟩ <;> rcases aN_rng (g + 1) with ⟨c, d⟩ | ⟨c, d⟩ <;> omega
/-- an append was tried -/
theorem jinv_try {s : DSt} {g : Int} {base : List Int} {ws AP RB : List (List Int)} (h : JInv s g base ws AP RB) (p : List Int) (hp : p.length ≤ 50) (hw : ws.length < 64) : JInv (appS s (ws.length : Int) (secL g ws.length p)) g base ws (AP ++ [p]) RB := by
  have pv : ∀ j v, PV (appS s (ws.length : Int) (secL g ws.length p)) j v → PV s j v ∨ (j = ws.length ∧ v = secL g ws.length p) := fun j v hv => by
    have := pv_app hv; rwa [Int.toNat_natCast] at this
  have ha := aN_rng g
  have hb := aN_rng (g + 1)
  have hn : (appS s (ws.length : Int) (secL g ws.length p)).n = 192 := by
    unfold appS
    split
    · rw [fl_n, wr_n, h.n]
    · rw [wr_n, h.n]
  obtain ⟨F, f1, f2, f3⟩ := h.slot
  refine ⟨hn, fun j v hv => ?_, h.g0, h.w64, h.w50, fun q hq => ?_, h.r960, fun j v hj hv => ?_, fun j v h1 h2 hv => ?_, ⟨F, fun j v h1 h2 hv => ?_, f2, f3⟩, fun v hv => ?_⟩
  · rcases pv j v hv with x | ⟨_, x⟩
    · exact h.len j v x
    · rw [x]; exact secL_len g _ p hp
  · rcases List.mem_append.mp hq with x | x
    · exact h.a50 q x
    · rw [List.mem_singleton] at x; rw [x]; exact hp
  · rcases pv j v hv with x | ⟨x, _⟩
    · exact h.recs j v hj x
    · omega
  · rcases pv j v hv with x | ⟨x, y⟩
    · rcases h.rest j v h1 h2 x with z | ⟨z, q, hq, z2⟩
      · exact .inl z
      · exact .inr ⟨z, q, List.mem_append_left _ hq, z2⟩
    · exact .inr ⟨x, p, List.mem_append_right _ (List.mem_singleton.mpr rfl), by rw [y, x]⟩
  · rcases pv j v hv with x | ⟨x, _⟩
    · exact f1 j v h1 h2 x
    · omega
  · rcases pv _ v hv with x | ⟨x, _⟩
    · exact h.head v x
    · omega
/-- a sector that was written and flushed -/
theorem app_ok {s : DSt} {n : Nat} {l : List Int} (hn : n < s.n) (hl : l.length = 64) (h : appE s (n : Int) l = 0) : (∀ v, PV (appS s (n : Int) l) n v → v = l) ∧ ∀ j, (appS s (n : Int) l).loose j = none := by
  unfold appE at h
  by_cases c : s.wrE (n : Int) l.length = 0
  · rw [if_pos c] at h
    have e : appS s (n : Int) l = ({ s.wr (n : Int) l with num := (s.wr (n : Int) l).num.work.1 } : DSt).sureAll := by
      unfold appS
      rw [if_pos c]
      unfold DSt.fl
      rw [if_pos (show (s.wr (n : Int) l).num.work.2 = 0 from h)]
    have ei : s.ioE (n : Int) = 0 := by unfold DSt.wrE at c; rwa [if_pos hl] at c
    have ew : (s.wr (n : Int) l).loose n = some l := by
      unfold DSt.wr
      rw [if_pos hl, if_pos ei, Int.toNat_natCast]
      show (if n = n then some l else (s.io (n : Int)).loose n) = some l
      rw [if_pos rfl]
    rw [e]
    refine ⟨fun v hv => ?_, fun j => rfl⟩
    rcases hv with hv | hv
    · have h' : v = ((s.wr (n : Int) l).loose n).getD ((s.wr (n : Int) l).sure n) := hv
      rw [h', ew]; rfl
    · exact absurd hv (by simp [DSt.sureAll])
  · rw [if_neg c] at h
    exact absurd h c
/-- an append was done -/
theorem jinv_done {s : DSt} {g : Int} {base : List Int} {ws AP : List (List Int)} (h : JInv s g base ws AP []) (p : List Int) (hp : p.length ≤ 50) (hw : ws.length < 64) (hE : appE s (ws.length : Int) (secL g ws.length p) = 0) : JInv (appS s (ws.length : Int) (secL g ws.length p)) g base (ws ++ [p]) [] [] := by
  have ht := jinv_try h p hp hw
  obtain ⟨o1, _⟩ := app_ok (by rw [h.n]; omega) (secL_len g _ p hp) hE
  refine ⟨ht.n, ht.len, ht.g0, by simp; omega, fun q hq => ?_, fun q hq => (by cases hq), fun q hq => (by cases hq), fun j v hj hv => ?_, fun j v h1 h2 hv => ?_, ht.slot, ht.head⟩
  · rcases List.mem_append.mp hq with x | x
    · exact h.w50 q x
    · rw [List.mem_singleton] at x; rw [x]; exact hp
  · rw [List.length_append, List.length_singleton] at hj
    rw [getD_snoc]
    by_cases c : j = ws.length
    · subst c; rw [if_pos rfl]; exact o1 v hv
    · rw [if_neg c]; exact ht.recs j v (by omega) hv
  · rw [List.length_append, List.length_singleton] at h1
    rcases ht.rest j v (by omega) h2 hv with x | ⟨x, _⟩
    · exact .inl x
    · omega
/-- a Rebase was tried -/
theorem jinv_reb {s s' : DSt} {g E : Int} {base l : List Int} {ws AP RB : List (List Int)} (h : JInv s g base ws AP RB) (hl : l.length ≤ 960) (hS : Saves s (g + 1) l E s') : JInv s' g base ws AP (RB ++ [l]) := by
  have pv : ∀ j v, PV s' j v → PV s j v ∨ (aN (g + 1) < j ∧ j ≤ aN (g + 1) + 15 ∧ v.length = 64) ∨ (j = aN (g + 1) ∧ v = headL (g + 1) l) := fun j v hv => pv_saves hl hS hv
  have ha := aN_rng g
  have hb := aN_rng (g + 1)
  have hab := aN_other g
  obtain ⟨F, f1, f2, f3⟩ := h.slot
  refine ⟨(saves_n hS).trans h.n, fun j v hv => ?_, h.g0, h.w64, h.w50, h.a50, fun q hq => ?_, fun j v hj hv => ?_, fun j v h1 h2 hv => ?_, ⟨F, fun j v h1 h2 hv => ?_, f2, f3⟩, fun v hv => ?_⟩
  · rcases pv j v hv with x | x | ⟨_, x⟩
    · exact h.len j v x
    · exact x.2.2
    · rw [x]; exact headL_len _ _
  · rcases List.mem_append.mp hq with x | x
    · exact h.r960 q x
    · rw [List.mem_singleton] at x; rw [x]; exact hl
  · have := h.w64
    rcases pv j v hv with x | x | ⟨x, _⟩
    · exact h.recs j v hj x
    · omega
    · omega
  · rcases pv j v hv with x | x | ⟨x, _⟩
    · exact h.rest j v h1 h2 x
    · omega
    · omega
  · rcases pv j v hv with x | x | ⟨x, _⟩
    · exact f1 j v h1 h2 x
    · omega
    · omega
  · rcases pv _ v hv with x | x | ⟨_, x⟩
    · rcases h.head v x with y | ⟨b, y1, y2⟩
      · exact .inl y
      · exact .inr ⟨b, List.mem_append_left _ y1, y2⟩
    · omega
    · exact .inr ⟨l, List.mem_append_right _ (List.mem_singleton.mpr rfl), x⟩
theorem wr_sure (s : DSt) (n : Int) (l : List Int) (j : Nat) : (s.wr n l).sure j = s.sure j := by
  unfold DSt.wr
  split
  · split
    · show (s.io n).sure j = _
      unfold DSt.io; split <;> rfl
    · unfold DSt.io; split <;> rfl
  · rfl
theorem wr_get_at (s : DSt) (n : Nat) (l : List Int) (hn : n < s.n) (hl : l.length = 64) (h : s.wrE (n : Int) 64 = 0) : (s.wr (n : Int) l).get (n : Int) = l := by
  have ei : s.ioE (n : Int) = 0 := by unfold DSt.wrE at h; rwa [if_pos rfl] at h
  unfold DSt.wr
  rw [if_pos hl, if_pos ei, Int.toNat_natCast]
  exact get_put n l
theorem wrN_get_at {s : DSt} {a : Nat} {pg : Nat → List Int} (hp : ∀ k, (pg k).length = 64) : ∀ k, a + 1 + k ≤ s.n → (∀ i, i < k → (wrN s a pg i).wrE ((a : Int) + 1 + i) 64 = 0) → ∀ j, a + 1 ≤ j → j < a + 1 + k → (wrN s a pg k).get (j : Int) = pg (j - (a + 1))
  | 0, _, _, j, h1, h2 => by omega
  | k + 1, hk, hE, j, h1, h2 => by
    show ((wrN s a pg k).wr ((a : Int) + 1 + k) (pg k)).get (j : Int) = _
    by_cases c : j = a + 1 + k
    · have e := wr_get_at (wrN s a pg k) (a + 1 + k) (pg k) (by rw [wrN_n]; omega) (hp k) (by have := hE k (by omega); rwa [show ((a + 1 + k : Nat) : Int) = (a : Int) + 1 + k by omega])
      rw [show ((a + 1 + k : Nat) : Int) = (a : Int) + 1 + k by omega] at e
      rw [c, show ((a + 1 + k : Nat) : Int) = (a : Int) + 1 + k by omega, e]
      congr 1; omega
    · rw [wr_get _ _ _ _ (by omega)]
      exact wrN_get_at hp k (by omega) (fun i hi => hE i (by omega)) j h1 (by omega)
/-- a Save that was done, on any disk -/
theorem saves_ok {s s' : DSt} {gen : Int} {l : List Int} (hn : s.n = 192) (hl : l.length ≤ 960) (h : Saves s gen l 0 s') : (∀ j, s'.loose j = none) ∧ s'.sure (aN gen) = headL gen l ∧ ∀ j, aN gen + 1 ≤ j → j < aN gen + 1 + pagesN l → s'.sure j = page l (j - (aN gen + 1)) := by
  have hp := pagesN_le hl
  have ha := aN_rng gen
  have ea := aN_eq gen
  rcases h with ⟨k, hk, _, _, h3, _⟩ | ⟨hE, h⟩
  · exact absurd rfl h3
  · rcases h with ⟨_, h2, _⟩ | ⟨h1, h2, rfl⟩
    · exact absurd rfl h2
    · rw [ea] at hE h1 h2 ⊢
      have hnn : (wrN s ((aN gen : Nat) : Int) (page l) (pagesN l)).fl.n = 192 := by rw [fl_n, wrN_n, hn]
      obtain ⟨o1, o2⟩ := app_ok (by rw [hnn]; omega) (headL_len gen l) h2.symm
      refine ⟨o2, (o1 _ (.inl rfl)), fun j j1 j2 => ?_⟩
      have e1 : ∀ t : DSt, t.loose j = none → t.sure j = t.get (j : Int) := fun t ht => by
        show _ = (t.loose ((j : Nat) : Int).toNat).getD (t.sure ((j : Nat) : Int).toNat)
        rw [Int.toNat_natCast, ht]; rfl
      rw [e1 _ (o2 j)]
      have e2 : (appS (wrN s ((aN gen : Nat) : Int) (page l) (pagesN l)).fl ((aN gen : Nat) : Int) (headL gen l)).get (j : Int) = (wrN s ((aN gen : Nat) : Int) (page l) (pagesN l)).get (j : Int) := by
        unfold appS
        split
        · rw [fl_get, wr_get _ _ _ _ (by omega), fl_get]
        · rw [wr_get _ _ _ _ (by omega), fl_get]
      rw [e2]
      exact wrN_get_at (page_len l) _ (by rw [hn]; omega) hE j j1 j2
/-- a Rebase was done -/
theorem jinv_rebased {s s' : DSt} {g : Int} {base l : List Int} {ws AP RB : List (List Int)} (h : JInv s g base ws AP RB) (g1 : g + 1 < 4294967296) (hl : l.length ≤ 960) (hS : Saves s (g + 1) l 0 s') : JInv s' (g + 1) l [] [] [] := by
  have ht := jinv_reb h hl hS
  obtain ⟨o1, o2, o3⟩ := saves_ok h.n hl hS
  have hp := pagesN_le hl
  have ha := aN_rng g
  have hb := aN_rng (g + 1)
  have hab := aN_other g
  have hab2 := aN_other (g + 1)
  have g0 := h.g0
  have sv : ∀ j v, PV s' j v → v = s'.sure j := fun j v hv => by
    rcases hv with x | x
    · exact x
    · rw [o1] at x; cases x
  obtain ⟨F, f1, f2, f3⟩ := ht.slot
  refine ⟨ht.n, ht.len, by omega, by simp, fun p hp => (by cases hp), fun p hp => (by cases hp), fun p hp => (by cases hp), fun j v hj => by simp at hj, fun j v _ h2 hv => .inl ?_, ⟨fun j => s'.sure j, fun j v _ _ hv => sv j v hv, fun x => by omega, fun _ w hw2 hw => ?_⟩, fun v hv => ?_⟩
  · by_cases c : j < ws.length
    · exact .inr ⟨g, ws.getD j [], g0, by omega, h.w50 _ (by rw [List.getD_eq_getElem?_getD, List.getElem?_eq_getElem c]; exact List.getElem_mem _), ht.recs j v c hv⟩
    · rcases ht.rest j v (by omega) h2 hv with x | ⟨_, p, p1, p2⟩
      · rcases x with x | ⟨g', p, a, b, c', d⟩
        · exact .inl x
        · exact .inr ⟨g', p, a, by omega, c', d⟩
      · exact .inr ⟨g, p, g0, by omega, h.a50 p p1, p2⟩
  · have e := one_saved (fun j => s'.sure j) (g + 1) l (by omega) g1 hl w hw
    rw [← e]
    refine (one_congr fun j j1 j2 => ?_).symm
    unfold savedF
    by_cases c : j = aN (g + 1)
    · rw [if_pos c, c, o2]
    · rw [if_neg c]
      by_cases c2 : aN (g + 1) + 1 ≤ j ∧ j < aN (g + 1) + 1 + pagesN l
      · rw [if_pos c2, o3 j c2.1 c2.2]
      · rw [if_neg c2]
  · have ev := f1 (aN (g + 1 + 1)) v (by omega) (by omega) hv
    have ea : aN (g + 1 + 1) = aN g := by omega
    by_cases c : g = 0
    · left; left
      rw [ev]; exact (f2 c).2 _ (by omega) (by omega)
    · left; right
      refine ⟨by omega, base, ?_⟩
      obtain ⟨w, hw2, hw⟩ : ∃ w : Nat, w < 2 ∧ (w : Int) = g % 2 := ⟨(g % 2).toNat, by omega, by omega⟩
      have := one_head (f3 (by omega) w hw2 hw)
      rw [ev, ea, show aN g = 64 + 16 * w by omega, this]
      show headL g base = headL (g + 1 - 1) base
      congr 1; omega
end Go.Proofs.YtolojkfpokmdkaaRR.Jour

-- XJourK
namespace Go.Proofs.YtolojkfpokmdkaaRR.Jour
open Go.RowKit Go.Proofs.YtolojkfpokmdkaaRR.Hp Go.Proofs.YtolojkfpokmdkaaRR.By Go.Proofs.YtolojkfpokmdkaaRR.Disk Go.Proofs.YtolojkfpokmdkaaRR.Word Go.Proofs.YtolojkfpokmdkaaRR.WordP Go.Proofs.YtolojkfpokmdkaaRR.Log Go.Proofs.YtolojkfpokmdkaaRR.Slot
set_option linter.unusedVariables false
set_option linter.unusedSimpArgs false
theorem one_len {f : Nat → List Int} {w : Nat} {q : Int × List Int} (h : oneOf f w = some q) : q.2.length ≤ 960 := by
  unfold oneOf at h
  split at h
  · cases h
  · rename_i c
    split at h
    · obtain rfl := Option.some.inj h
      show ((cat f (64 + 16 * w + 1) _).take _).length ≤ 960
      rw [List.length_take]
      omega
    · cases h
theorem head_len_eq {g : Int} {b c : List Int} (hb : b.length ≤ 960) (hc : c.length ≤ 960) (h : headL g b = headL g c) : b.length = c.length := by
  have e1 := head_num g b
  rw [h, head_num g c] at e1
  have := digs_inj (a := (c.length : Int)) (b := (b.length : Int)) (by omega) (by omega) e1
  omega
theorem old_none {g g2 : Int} {j : Nat} {v : List Int} (hj : j < 64) (g0 : 0 ≤ g) (h2 : g ≤ g2) (g1 : g2 < 4294967296) (h : Old g j v) : recOf v g2 j = none := by
  rcases h with rfl | ⟨g', p, a, b, c, rfl⟩
  · exact none_zero ⟨by omega, g1⟩ j (by omega)
  · exact rec_other c ⟨a, by omega⟩ ⟨by omega, g1⟩ (by omega)
/-- what is loaded and read -/
def Found (g : Int) (base : List Int) (ws AP RB : List (List Int)) (G : Int) (bb : List Int) (l : List (List Int)) : Prop :=
  (G = g ∧ bb = base ∧ (l = ws ∨ ∃ p ∈ AP, l = ws ++ [p])) ∨ (l = [] ∧ G = g + 1 ∧ ∃ b ∈ RB, bb.length = b.length ∧ headL G bb = headL G b)
theorem jinv_found {s : DSt} {g : Int} {base : List Int} {ws AP RB : List (List Int)} (h : JInv s g base ws AP RB) (g1 : g + 1 < 4294967296) {f : Nat → List Int} (hf : ∀ j, PV s j (f j)) {s2 : DSt} (hs2 : Says s2 f) (k : Nat) (hk : k ≤ 64)
    (q1 : ∀ j : Nat, j < k → (recOf (s2.get (j : Int)) (loadOf f).1 j).isSome = true) (q2 : k = 64 ∨ recOf (s2.get (k : Int)) (loadOf f).1 k = none) : Found g base ws AP RB (loadOf f).1 (loadOf f).2 (recs s2 (loadOf f).1 k) := by
  have g0 := h.g0
  have ha := aN_rng g
  have hb := aN_rng (g + 1)
  have hab := aN_other g
  obtain ⟨F, f1, f2, f3⟩ := h.slot
  obtain ⟨w, hw2, hw⟩ : ∃ w : Nat, w < 2 ∧ (w : Int) = g % 2 := ⟨(g % 2).toNat, by omega, by omega⟩
  have ewa : 64 + 16 * w = aN g := by omega
  have ewb : 64 + 16 * (1 - w) = aN (g + 1) := by omega
  have eF : oneOf f w = oneOf F w := one_congr fun j j1 j2 => f1 j (f j) (by omega) (by omega) (hf j)
  have ow : (g = 0 ∧ base = [] ∧ oneOf f w = none) ∨ (0 < g ∧ oneOf f w = some (g, base)) := by
    by_cases c : g = 0
    · exact .inl ⟨c, (f2 c).1, by rw [eF]; exact one_zeros hw2 (by rw [ewa]; exact (f2 c).2 _ (by omega) (by omega))⟩
    · exact .inr ⟨by omega, by rw [eF]; exact f3 (by omega) w hw2 hw⟩
  -- the other slot's
  have oo : (∀ q, oneOf f (1 - w) = some q → 0 < g ∧ q.1 = g - 1) ∨ ∃ b ∈ RB, f (aN (g + 1)) = headL (g + 1) b := by
    rcases h.head _ (hf (aN (g + 1))) with x | x
    · left
      intro q hq
      rcases x with x | ⟨x0, b, x⟩
      · rw [one_zeros (by omega) (by rw [ewb]; exact x)] at hq; cases hq
      · exact ⟨x0, one_gen (g := g - 1) (b := b) (by omega) (by omega) (by rw [ewb]; exact x) hq⟩
    · exact .inr x
  have stay : (∀ q, oneOf f (1 - w) = some q → q.1 < g) → loadOf f = (g, base) := fun hq => by
    rcases ow with ⟨c, cb, o⟩ | ⟨c, o⟩
    · have hw0 : w = 0 := by omega
      subst hw0
      unfold loadOf
      rw [o]
      cases e : oneOf f 1 with
      | none => rw [c, cb]; rfl
      | some q =>
        have e2 := hq q e
        have := hf 0
        exfalso
        rcases oo with o2 | ⟨b, _, o2⟩
        · have := o2 q e; omega
        · have := one_gen (g := g + 1) (b := b) (by omega) g1 (by rw [ewb]; exact o2) e
          omega
    · exact load_two w hw2 g0 o hq
  have atg : loadOf f = (g, base) → Found g base ws AP RB (loadOf f).1 (loadOf f).2 (recs s2 (loadOf f).1 k) := fun e => by
    rw [e] at q1 q2 ⊢
    left
    refine ⟨rfl, rfl, ?_⟩
    have some_j : ∀ j, j < ws.length → recOf (f j) g j = some (ws.getD j []) := fun j hj => by
      rw [h.recs j _ hj (hf j)]
      exact rec_sec g j _ (h.w50 _ (by rw [List.getD_eq_getElem?_getD, List.getElem?_eq_getElem hj]; exact List.getElem_mem _))
    have recsw : recs s2 g ws.length = ws := by
      have hl : (recs s2 g ws.length).length = ws.length := recs_len _ _ _
      apply List.ext_getElem?
      intro j
      by_cases c : j < ws.length
      · rw [recs_recsF]
        unfold recsF
        rw [List.getElem?_map, List.getElem?_range c]
        simp only [Option.map_some]
        rw [hs2.2.2, some_j j c, List.getD_eq_getElem?_getD, List.getElem?_eq_getElem c]; rfl
      · rw [List.getElem?_eq_none (by omega), List.getElem?_eq_none (by omega)]
    by_cases c64 : ws.length = 64
    · have : k = 64 := stop_at hs2 hk q1 q2 64 (by omega) (fun j hj => by rw [some_j j (by omega)]; rfl) (.inl rfl)
      left; rw [this, ← c64]; exact recsw
    · rcases h.rest ws.length _ (Nat.le_refl _) (by have := h.w64; omega) (hf ws.length) with x | ⟨_, p, p1, p2⟩
      · have : k = ws.length := stop_at hs2 hk q1 q2 ws.length h.w64 (fun j hj => by rw [some_j j hj]; rfl) (.inr (old_none (by have := h.w64; omega) g0 (Int.le_refl g) (by omega) x))
        left; rw [this]; exact recsw
      · have hr : recOf (f ws.length) g ws.length = some p := by rw [p2]; exact rec_sec g _ p (h.a50 p p1)
        have hkk : k = ws.length + 1 := stop_at hs2 hk q1 q2 (ws.length + 1) (by have := h.w64; omega) (fun j hj => by
          by_cases c : j < ws.length
          · rw [some_j j c]; rfl
          · obtain rfl : j = ws.length := by omega
            rw [hr]; rfl) (by
          by_cases c : ws.length + 1 = 64
          · exact .inl c
          · right
            rcases h.rest (ws.length + 1) _ (by omega) (by have := h.w64; omega) (hf _) with y | ⟨y, _⟩
            · exact old_none (by have := h.w64; omega) g0 (Int.le_refl g) (by omega) y
            · omega)
        right
        refine ⟨p, p1, ?_⟩
        rw [hkk, recs_snoc s2 g ws.length p (by rw [hs2.2.2]; exact hr), recsw]
  rcases oo with oo | ⟨b, hb1, hb2⟩
  · exact atg (stay fun q hq => by have := oo q hq; omega)
  · cases e : oneOf f (1 - w) with
    | none => exact atg (stay fun q hq => by rw [e] at hq; cases hq)
    | some q =>
      have hq1 := one_gen (g := g + 1) (b := b) (by omega) g1 (by rw [ewb]; exact hb2) e
      obtain ⟨qg, qb⟩ := q
      have hq1' : qg = g + 1 := hq1
      subst hq1'
      have hld : loadOf f = (g + 1, qb) := load_two (1 - w) (by omega) (by omega) e (fun q hq => by
        have ew : 1 - (1 - w) = w := by omega
        rw [ew] at hq
        rcases ow with ⟨_, _, o⟩ | ⟨_, o⟩
        · rw [o] at hq; cases hq
        · rw [o] at hq
          obtain rfl := Option.some.inj hq
          show g < g + 1
          omega)
      have hhd : headL (g + 1) qb = headL (g + 1) b := by
        have := one_head e
        rw [← this, ewb]; exact hb2
      rw [hld] at q1 q2 ⊢
      right
      have h0 : recOf (f 0) (g + 1) ((0 : Nat) : Int) = none := by
        by_cases c : 0 < ws.length
        · rw [h.recs 0 _ c (hf 0)]
          exact rec_other (h.w50 _ (by rw [List.getD_eq_getElem?_getD, List.getElem?_eq_getElem c]; exact List.getElem_mem _)) ⟨g0, by omega⟩ ⟨by omega, g1⟩ (by omega)
        · rcases h.rest 0 _ (by omega) (by decide) (hf 0) with x | ⟨_, p, p1, p2⟩
          · exact old_none (by decide) g0 (by omega) g1 x
          · rw [p2]; exact rec_other (h.a50 p p1) ⟨g0, by omega⟩ ⟨by omega, g1⟩ (by omega)
      have hk0 : k = 0 := stop_at hs2 hk q1 q2 0 (by decide) (fun j hj => by omega) (.inr h0)
      exact ⟨by rw [hk0]; rfl, rfl, b, hb1, head_len_eq (one_len e) (h.r960 b hb1) hhd, hhd⟩
end Go.Proofs.YtolojkfpokmdkaaRR.Jour

