/- Several texts in one (a claim holds at most 60 files). -/
import Derived.Test.YtolojkfpokmdkaaRRRgD
import Derived.Test.YtolojkfpokmdkaaRRRgA
import Derived.Deep.RegionHeldLaw
import Derived.OwnWalk
import Derived.Lib.SlBytesConst
-- XSlot
namespace Go.Proofs.YtolojkfpokmdkaaRR.Slot
open Go.RowKit Go.Proofs.YtolojkfpokmdkaaRR.Hp Go.Proofs.YtolojkfpokmdkaaRR.By Go.Proofs.YtolojkfpokmdkaaRR.Disk Go.Proofs.YtolojkfpokmdkaaRR.Word Go.Proofs.YtolojkfpokmdkaaRR.WordP Go.Proofs.YtolojkfpokmdkaaRR.Log
set_option linter.unusedVariables false
set_option linter.unusedSimpArgs false
/-- a slot's first sector, without its sum -/
def headH (gen len : Int) : List Int := spl (spl (List.replicate 64 0) 0 (digs gen 4)) 4 (digs len 4)
def headL (gen : Int) (b : List Int) : List Int := spl (headH gen b.length) 8 (digs (sum32 (fold 14695981039346656037 ((headH gen b.length).take 8 ++ b))) 4)
theorem headH_len (gen len : Int) : (headH gen len).length = 64 := by
  have d4 : ∀ v, (digs v 4).length = 4 := fun v => digs_length v 4
  have e1 : (spl (List.replicate 64 0) 0 (digs gen 4)).length = 64 := by rw [spl_length _ _ _ (by rw [d4]; simp)]; simp
  unfold headH
  rw [spl_length _ _ _ (by rw [d4, e1]; omega)]; exact e1
theorem headL_len (gen : Int) (b : List Int) : (headL gen b).length = 64 := by
  unfold headL
  have e := headH_len gen b.length
  rw [spl_length _ _ _ (by rw [digs_length, e]; omega)]; exact e
theorem headH_bytes (gen len : Int) : Bytes (headH gen len) := bytes_spl (bytes_spl (bytes_zero 64) (digs_bytes _ _) 0) (digs_bytes _ _) 4
theorem headL_bytes (gen : Int) (b : List Int) : Bytes (headL gen b) := bytes_spl (headH_bytes gen b.length) (digs_bytes _ _) 8
theorem at_any (gen : Int) (w : World) (g0 : 0 ≤ gen) (g1 : gen < 4294967296) : Calls Try.prog 56 #[.int .u32 gen] w fun e w' => e = .returned (.int .i64 (64 + gen % 2 * 16)) ∧ w = w' := by
  go_enter Try.func56, Try.ntmps56
  go_wp2_with fail
  go_ret
  exact ⟨rfl, rfl⟩
theorem pages_any (n : Nat) (w : World) (hn : n ≤ 100000) : Calls Try.prog 57 #[.int .i64 n] w fun e w' => e = .returned (.int .i64 ((n + 63) / 64 : Nat)) ∧ w = w' := by
  have e : ((n : Int) + 64 - 1).tdiv 64 = (((n + 63) / 64 : Nat) : Int) := by
    rw [Int.tdiv_eq_ediv_of_nonneg (by omega)]; omega
  go_enter Try.func57, Try.ntmps57
  go_wp2_with fail
  go_ret
  exact ⟨rfl, rfl⟩
set_option maxHeartbeats 2000000 in
theorem head_any (gen : Int) (A : Option Addr) (c : Nat) (l : List Int) (w : World) (g0 : 0 ≤ gen) (g1 : gen < 4294967296) (hl : l.length ≤ 100000) (hr : Rd w .u8 A l) (hb : Bytes l) :
    Calls Try.prog 58 #[.int .u32 gen, .slice A l.length c] w (SecPost w (headL gen l)) := by
  have hmk := make64
  go_enter Try.func58, Try.ntmps58
  go_wp2_with fail
  have B0 : InB (w.alloc (.cells (Array.replicate 64 (.int .u8 0)) 5)) w.heap.size 0 (Array.replicate 64 (.int .u8 0)) 5 (List.replicate 64 0) := ⟨bnew w _, by simp, fun j hj => by
    rw [List.length_replicate] at hj
    rw [Nat.zero_add, Array.getElem?_replicate, if_pos hj, List.getD_eq_getElem?_getD, List.getElem?_replicate, if_pos hj]; rfl⟩
  have c0 : Chg NoB w (w.alloc (.cells (Array.replicate 64 (.int .u8 0)) 5)) := (Chg.refl NoB w).alloc _
  have hln : (List.replicate 64 (0 : Int)).length = 64 := by simp
  clear hmk
  generalize w.alloc (.cells (Array.replicate 64 (.int .u8 0)) 5) = w1 at *
  obtain ⟨g, hgg⟩ : ∃ g, g = w.heap.size := ⟨_, rfl⟩
  rw [← hgg] at B0 ⊢
  have hg : w.heap.size ≤ g := Nat.le_of_eq hgg.symm
  clear hgg
  have st : ∀ {wa wb : World}, Chg NoB w wa → Chg (· = g) wa wb → Chg NoB w wb := fun h1 h2 => h1.trans h2 (fun i hi x => by omega)
  have d4 : ∀ v, (digs v 4).length = 4 := fun v => digs_length v 4
  have l1 : (spl (List.replicate 64 0) 0 (digs gen 4)).length = 64 := by rw [spl_length _ _ _ (by rw [d4]; simp)]; simp
  have l2 := headH_len gen l.length
  have sr := sum32_range (fold 14695981039346656037 ((headH gen l.length).take 8 ++ l))
  have fin : ∀ w' C, InB w' g 0 C 5 (headL gen l) → Chg NoB w w' → SecPost w (headL gen l) (.returned (.slice (some ⟨g, 0, none⟩) 64 64)) w' := fun w' C h1 h2 => ⟨_, g, rfl, row_of_inb h1 (headL_len gen l) (headL_bytes gen l), hg, h2⟩
  have FI := Lib.hid fin
  have P4 : ∀ w4 C, InB w4 g 0 C 5 (headH gen l.length) → Chg NoB w w4 → ∀ T, InB (w4.alloc (.cells #[.slice (some ⟨g, 0, none⟩) 8 64, .slice A l.length c] T)) g 0 C 5 (headH gen l.length) ∧ Chg NoB w (w4.alloc (.cells #[.slice (some ⟨g, 0, none⟩) 8 64, .slice A l.length c] T)) ∧
      Calls Try.prog 76 #[.slice (some ⟨w4.heap.size, 0, none⟩) 2 2] (w4.alloc (.cells #[.slice (some ⟨g, 0, none⟩) 8 64, .slice A l.length c] T)) (SumPost (sum32 (fold 14695981039346656037 ((headH gen l.length).take 8 ++ l))) (w4.alloc (.cells #[.slice (some ⟨g, 0, none⟩) 8 64, .slice A l.length c] T))) := by
    intro w4 C h1 h2 T
    have ht : ((headH gen l.length).take 8).length = 8 := by rw [List.length_take]; omega
    have pn := parts_new w4 [(some ⟨g, 0, none⟩, 64, (headH gen l.length).take 8), (A, c, l)] (fun x hx => by
      rcases List.mem_cons.mp hx with rfl | hx
      · exact ⟨(inb_take h1 8).rd (by omega), fun y hy => headH_bytes gen l.length y (List.mem_of_mem_take hy)⟩
      · rw [List.mem_singleton] at hx; subst hx
        exact ⟨hr.chg h2 (fun _ _ _ x => x), hb⟩) T _ rfl
    have sa := sum_any (some ⟨w4.heap.size, 0, none⟩) 2 [(headH gen l.length).take 8, l] _ pn (by simp)
    simp only [List.map_cons, List.map_nil, ht, List.length_cons, List.length_nil, List.flatten_cons, List.flatten_nil, List.append_nil] at sa
    exact ⟨inb_chg h1 ((Chg.refl NoB w4).alloc _) (fun x => x), h2.trans ((Chg.refl NoB w4).alloc _) (fun _ _ x => x), sa⟩
  have PH := Lib.hid P4
  have LN := Lib.hid (And.intro l1 (And.intro l2 sr))
  have p1 := put64 g _ 5 _ 0 4 gen w1 B0 hln g0 (by omega) (by omega) (by omega)
  clear fin P4 l1 l2 sr d4 hln B0
  refine p1.mono ?_
  rintro e w2 ⟨rfl, ⟨C1, B1⟩, hc1⟩
  have c1 := st c0 hc1
  have p2 := put64 g _ 5 _ 4 4 l.length w2 B1 LN.out.1 (by omega) (by omega) (by omega) (by omega)
  clear p1 hc1 c0 B1
  go_wp2_with fail
  refine p2.mono ?_
  rintro e w3 ⟨rfl, ⟨C2, B2⟩, hc2⟩
  have c2 := st c1 hc2
  clear p2 hc2 c1
  go_wp2_with fail
  obtain ⟨B5, c5, sm⟩ := PH.out w3 _ B2 c2 38
  refine sm.mono ?_
  rintro e w6 ⟨rfl, rfl⟩
  have sr := LN.out.2.2
  have p5 := put64 g _ 5 _ 8 4 _ _ B5 LN.out.2.1 sr.1 (by omega) (by omega) (by omega)
  have hs : ∀ y, y = sum32 (fold 14695981039346656037 ((headH gen l.length).take 8 ++ l)) → spl (headH gen l.length) 8 (digs y 4) = headL gen l := fun y e => by rw [e]; rfl
  have HS := Lib.hid hs
  clear hs B5 B2 c2 sm PH hr
  obtain ⟨sr0, sr1⟩ := sr
  generalize hy : sum32 (fold 14695981039346656037 ((headH gen l.length).take 8 ++ l)) = y at *
  have hs2 := HS.out y rfl
  clear HS hy
  generalize w3.alloc (.cells #[.slice (some ⟨g, 0, none⟩) 8 64, .slice A l.length c] 38) = w6 at *
  clear LN
  go_wp2_with fail
  refine p5.mono ?_
  rintro e w7 ⟨rfl, ⟨C5, B6⟩, hc6⟩
  rw [hs2] at B6
  have P := FI.out w7 C5 B6 (st c5 hc6)
  clear B6 hc6 c5 p5 FI hs2
  go_wp2_with fail
  go_ret
  exact P
end Go.Proofs.YtolojkfpokmdkaaRR.Slot

-- XSlotB
namespace Go.Proofs.YtolojkfpokmdkaaRR.Slot
open Go.RowKit Go.Proofs.YtolojkfpokmdkaaRR.Hp Go.Proofs.YtolojkfpokmdkaaRR.By Go.Proofs.YtolojkfpokmdkaaRR.Disk Go.Proofs.YtolojkfpokmdkaaRR.Word Go.Proofs.YtolojkfpokmdkaaRR.WordP Go.Proofs.YtolojkfpokmdkaaRR.Log
set_option linter.unusedVariables false
set_option linter.unusedSimpArgs false
/-- a sector's worth of bytes, zeros behind -/
def page (l : List Int) (k : Nat) : List Int := spl (List.replicate 64 0) 0 ((l.drop (64 * k)).take 64)
theorem page_len (l : List Int) (k : Nat) : (page l k).length = 64 := by
  unfold page
  rw [spl_length _ _ _ (by rw [List.length_take, List.length_replicate]; omega)]; simp
theorem page_bytes {l : List Int} (h : Bytes l) (k : Nat) : Bytes (page l k) := bytes_spl (bytes_zero 64) (fun x hx => h x (List.mem_of_mem_drop (List.mem_of_mem_take hx))) 0
def pagesN (l : List Int) : Nat := (l.length + 63) / 64
/-- pages are written, one behind the other -/
def wrN (s : DSt) (a : Int) (pg : Nat → List Int) : Nat → DSt
  | 0 => s
  | k + 1 => (wrN s a pg k).wr (a + 1 + k) (pg k)
def slotAt (gen : Int) : Int := 64 + gen % 2 * 16
/-- what Save answers, and leaves -/
def Saves (s : DSt) (gen : Int) (l : List Int) (E : Int) (s' : DSt) : Prop :=
  (∃ k, k < pagesN l ∧ (∀ j, j < k → (wrN s (slotAt gen) (page l) j).wrE (slotAt gen + 1 + j) 64 = 0) ∧ (wrN s (slotAt gen) (page l) k).wrE (slotAt gen + 1 + k) 64 = E ∧ E ≠ 0 ∧ s' = wrN s (slotAt gen) (page l) (k + 1)) ∨
  ((∀ j, j < pagesN l → (wrN s (slotAt gen) (page l) j).wrE (slotAt gen + 1 + j) 64 = 0) ∧
    (((wrN s (slotAt gen) (page l) (pagesN l)).flE = E ∧ E ≠ 0 ∧ s' = (wrN s (slotAt gen) (page l) (pagesN l)).fl) ∨
     ((wrN s (slotAt gen) (page l) (pagesN l)).flE = 0 ∧ E = appE (wrN s (slotAt gen) (page l) (pagesN l)).fl (slotAt gen) (headL gen l) ∧ s' = appS (wrN s (slotAt gen) (page l) (pagesN l)).fl (slotAt gen) (headL gen l))))
/-- a disk, some steps on -/
def Stp (w0 w : World) (d : Nat) (ρ0 : Nat → Nat) (wr : World) (s' : DSt) : Prop := ∃ ρ, DL w0 wr d ρ s' ∧ Chg (Own ρ0) w wr ∧ ∀ i, i < w.heap.size → ρ0 i = 0 → ρ i = 0
theorem Stp.refl {w0 w : World} {d : Nat} {ρ0 : Nat → Nat} {s : DSt} (h : DL w0 w d ρ0 s) : Stp w0 w d ρ0 w s := ⟨ρ0, h, Chg.refl _ _, fun _ _ x => x⟩
theorem Stp.keep {w0 w wr w2 : World} {d : Nat} {ρ0 : Nat → Nat} {s : DSt} (h : Stp w0 w d ρ0 wr s) (hc : Chg NoB wr w2) : Stp w0 w d ρ0 w2 s := by
  obtain ⟨ρ, h1, h2, h3⟩ := h
  exact ⟨ρ, h1.keep hc, h2.trans hc (fun _ _ x => x.elim), h3⟩
theorem Stp.step {w0 w wr w2 : World} {d : Nat} {ρ0 ρ ρ2 : Nat → Nat} {s' : DSt} (h2 : Chg (Own ρ0) w wr) (h3 : ∀ i, i < w.heap.size → ρ0 i = 0 → ρ i = 0) (k1 : DL w0 w2 d ρ2 s') (k2 : Chg (Own ρ) wr w2) (k3 : ∀ i, i < wr.heap.size → ρ i = 0 → ρ2 i = 0) : Stp w0 w d ρ0 w2 s' := by
  refine ⟨ρ2, k1, h2.trans k2 (fun i hi x => ?_), fun i hi h0 => k3 i (by have := h2.size; omega) (h3 i hi h0)⟩
  by_cases c : ρ0 i = 0
  · exact absurd (h3 i hi c) x
  · exact c
def SavePost (w0 w : World) (d : Nat) (ρ0 : Nat → Nat) (s : DSt) (gen : Int) (l : List Int) (e : Ending) (w' : World) : Prop :=
  ∃ E s', e = .returned (.int .i64 E) ∧ Saves s gen l E s' ∧ Stp w0 w d ρ0 w' s'
theorem save_bad (P : Option Addr) (gen : Int) (A : Option Addr) (len c : Nat) (w : World) (hlen : len ≤ 140737488351232) (h : P = none ∨ 960 < len) :
    Calls Try.prog 50 #[.pointer P, .int .u32 gen, .slice A len c] w fun e w' => e = .returned (.int .i64 1) ∧ w = w' := by
  cases P with
  | none =>
    clear h
    go_enter Try.func50, Try.ntmps50
    go_wp2_with fail
    go_ret
    exact ⟨rfl, rfl⟩
  | some ad =>
    have h2 : 960 < len := h.resolve_left (by simp)
    clear h
    go_enter Try.func50, Try.ntmps50
    go_wp2_with fail
    go_ret
    exact ⟨rfl, rfl⟩
def SvB (w0 w : World) (d : Nat) (ρ0 : Nat → Nat) (s : DSt) (gen : Int) (l : List Int) (i : Value) (wr : World) : Prop :=
  ∃ k : Nat, k ≤ pagesN l ∧ i = .int .i64 k ∧ (∀ j, j < k → (wrN s (slotAt gen) (page l) j).wrE (slotAt gen + 1 + j) 64 = 0) ∧ Stp w0 w d ρ0 wr (wrN s (slotAt gen) (page l) k)
theorem buf_inb (w : World) : InB (w.alloc (.cells (Array.replicate 64 (.int .u8 0)) 5)) w.heap.size 0 (Array.replicate 64 (.int .u8 0)) 5 (List.replicate 64 0) := ⟨bnew w _, by simp, fun j hj => by
  rw [List.length_replicate] at hj
  rw [Nat.zero_add, Array.getElem?_replicate, if_pos hj, List.getD_eq_getElem?_getD, List.getElem?_replicate, if_pos hj]; rfl⟩
/-- the bytes behind a cut -/
theorem rd_drop {w : World} {A : Option Addr} {l : List Int} (h : Rd w .u8 A l) (a : Nat) (ha : a < l.length) : ∃ ad, A = some ad ∧ Rd w .u8 (some (ad.add a)) (l.drop a) := by
  obtain ⟨ad, e, _⟩ := h.at_ a ha
  refine ⟨ad, e, by have := h.1; rw [List.length_drop]; omega, fun hp => ⟨_, rfl, fun j hj => ?_⟩⟩
  rw [List.length_drop] at hj
  obtain ⟨ad', e', hc⟩ := h.at_ (a + j) (by omega)
  rw [e] at e'
  obtain rfl := Option.some.inj e'
  have e2 : (ad.add a).add j = ad.add (a + j) := by
    unfold Addr.add
    by_cases c1 : a = 0
    · subst c1; simp
    · by_cases c2 : j = 0
      · subst c2; simp [c1]
      · have c3 : ¬ (a + j = 0) := by omega
        simp [c1, c2, Nat.add_assoc]
  rw [e2, hc, List.getD_eq_getElem?_getD, List.getD_eq_getElem?_getD, List.getElem?_drop]
set_option maxHeartbeats 2000000 in
theorem save_any {w0 w : World} {d : Nat} {ρ0 : Nat → Nat} {s : DSt} (gen : Int) (A : Option Addr) (c : Nat) (l : List Int) (h : DL w0 w d ρ0 s) (g0 : 0 ≤ gen) (g1 : gen < 4294967296) (hl : l.length ≤ 960) (hr : Rd w .u8 A l) (hlt : 0 < l.length → Off A (Own ρ0)) (hcap : l.length ≤ c) (hb : Bytes l) :
    Calls Try.prog 50 #[.pointer (some ⟨d, 0, none⟩), .int .u32 gen, .slice A l.length c] w (SavePost w0 w d ρ0 s gen l) := by
  have hB : SvB w0 w d ρ0 s gen l (.int .i64 0) w := ⟨0, by omega, rfl, fun j hj => by omega, Stp.refl h⟩
  have hpn : pagesN l ≤ 15 := by unfold pagesN; omega
  have hpg := fun w => pages_any l.length w (by omega)
  have hat := fun w => at_any gen w g0 g1
  have hmk := make64
  have hd : decide (960 < (l.length : Int)) = false := by simp; omega
  have HR := Lib.hid (And.intro hr (And.intro hlt hb))
  have ep : (((l.length + 63) / 64 : Nat) : Int) = (pagesN l : Int) := rfl
  have hsl : slotAt gen = 64 + gen % 2 * 16 := rfl
  have hrng : 64 ≤ slotAt gen ∧ slotAt gen ≤ 80 := by unfold slotAt; omega
  obtain ⟨a, ha⟩ : ∃ a, a = slotAt gen := ⟨_, rfl⟩
  have HA := Lib.hid (And.intro ha hrng)
  clear h hr hlt hb hsl hrng ha
  go_enter Try.func50, Try.ntmps50
  go_wp2_with fail
  refine (hpg _).mono ?_
  rintro e w1 ⟨rfl, rfl⟩
  rw [ep]
  obtain ⟨P, hP⟩ : ∃ P, P = pagesN l := ⟨_, rfl⟩
  have HP := Lib.hid hP
  rw [← hP] at hpn ⊢
  clear hpg ep hP
  go_wp2_with fail
  go_loopw [22] (fun i wr => SvB w0 w d ρ0 s gen l i wr) (fun i wr => (64 - intOf i).toNat)
  case atStart => exact hB
  case round =>
    clear hB
    obtain ⟨k, hk, rfl, hok, ρ, hD, hC, hz⟩ := hrel
    rw [← HP.out] at hk
    by_cases hlk : k < P
    · have hk64 : k * 64 < l.length := by
        have := HP.out; unfold pagesN at this; omega
      obtain ⟨ad, rfl, hrd⟩ := rd_drop (HR.out.1.chg hC (fun hp ad e x => HR.out.2.1 hp ad e x)) (k * 64) hk64
      have i1 : (k : Int) * 64 ≤ (l.length : Int) := by omega
      have i2 : (l.length : Int) ≤ (c : Int) := by omega
      have i3 : (0 : Int) ≤ (k : Int) * 64 := by omega
      have i4 : ((k : Int) * 64).toNat = k * 64 := by omega
      have i5 : ¬ c = k * 64 := by omega
      have i6 : (k : Int) * 64 ≤ (c : Int) := by omega
      have xl : ((l.drop (k * 64)).take 64).length = Nat.min (l.length - k * 64) 64 := by rw [List.length_take, List.length_drop]; exact Nat.min_comm _ _
      have hrd1 := hrd.chg ((Chg.refl NoB wr).alloc (.cells (Array.replicate 64 (.int .u8 0)) 5)) (fun _ _ _ x => x)
      have hsrc : 0 < (((l.drop (k * 64)).take 64).map (Value.int .u8)).length → ∃ a', some (ad.add (k * 64)) = some a' ∧ ∀ j v, (((l.drop (k * 64)).take 64).map (Value.int .u8))[j]? = some v → (wr.alloc (.cells (Array.replicate 64 (.int .u8 0)) 5)).cell? (a'.add j) = some v := fun _ => ⟨_, rfl, fun j v hj => by
        rw [List.getElem?_map, List.getElem?_take] at hj
        by_cases c64 : j < 64
        · rw [if_pos c64] at hj
          by_cases cl : j < (l.drop (k * 64)).length
          · obtain ⟨a', e', hc'⟩ := hrd1.at_ j cl
            obtain rfl := Option.some.inj e'
            rw [hc', List.getD_eq_getElem?_getD]
            rw [List.getElem?_eq_getElem cl] at hj ⊢
            simpa using hj
          · rw [List.getElem?_eq_none (by omega)] at hj; cases hj
        · rw [if_neg c64] at hj; cases hj⟩
      have hmin : (((l.drop (k * 64)).take 64).map (Value.int .u8)).length = Nat.min (l.length - k * 64) 64 := by rw [List.length_map]; exact xl
      have hfit : 0 + (((l.drop (k * 64)).take 64).map (Value.int .u8)).length ≤ (Array.replicate 64 (Value.int .u8 0)).size := by
        rw [List.length_map, List.length_take]; simp; omega
      have hpg : page l k = spl (List.replicate 64 0) 0 ((l.drop (k * 64)).take 64) := by unfold page; rw [Nat.mul_comm]
      have one := one_u8 ((l.drop (k * 64)).take 64)
      have B0 := buf_inb wr
      have hbk := B0.bk
      have hBB : ∀ w5, Blk w5 wr.heap.size (splA (Array.replicate 64 (.int .u8 0)) 0 (((l.drop (k * 64)).take 64).map (Value.int .u8))) 5 → InB w5 wr.heap.size 0 (splA (Array.replicate 64 (.int .u8 0)) 0 (((l.drop (k * 64)).take 64).map (Value.int .u8))) 5 (page l k) := fun w5 hb5 => by
        rw [hpg]; exact inb_splA B0 hb5 (by rw [List.length_take, List.length_replicate]; omega)
      have nx : ∀ w5, Blk w5 wr.heap.size (splA (Array.replicate 64 (.int .u8 0)) 0 (((l.drop (k * 64)).take 64).map (Value.int .u8))) 5 → Chg (· = wr.heap.size) (wr.alloc (.cells (Array.replicate 64 (.int .u8 0)) 5)) w5 → Calls Try.prog 63 #[.pointer (some ⟨d, 0, none⟩), .int .i64 (64 + gen % 2 * 16 + 1 + k), .slice (some ⟨wr.heap.size, 0, none⟩) 64 64] w5 fun e w' => e = .returned (.int .i64 ((wrN s (slotAt gen) (page l) k).wrE (slotAt gen + 1 + k) 64)) ∧ Stp w0 w d ρ0 w' (wrN s (slotAt gen) (page l) (k + 1)) := by
        intro w5 hb5 hc5
        have I5 := hBB w5 hb5
        have c5 : Chg NoB wr w5 := ((Chg.refl NoB wr).alloc _).trans hc5 (fun i hi x => by omega)
        have D5 := hD.keep c5
        have pl := page_len l k
        have zr : ρ wr.heap.size = 0 := by
          obtain ⟨_, _, _, _, _, _, _, hp⟩ := hD.at_
          exact hp.rz _ (Nat.le_refl _)
        have hw := l_write (slotAt gen + 1 + k) (some ⟨wr.heap.size, 0, none⟩) 64 (page l k) D5 (fun x hx => by have := page_bytes HR.out.2.2 k x hx; omega) (I5.rd (by omega)) (fun _ ad e x => by
          obtain rfl := Option.some.inj e
          exact x zr)
        rw [pl] at hw
        refine hw.mono ?_
        rintro e w6 ⟨rfl, hC6, ρ6, hD6, hz6⟩
        rw [pl]
        exact ⟨rfl, Stp.step (hC.trans c5 (fun _ _ x => x.elim)) hz hD6 hC6 (fun i hi h0 => hz6 i hi h0)⟩
      have NX := Lib.hid nx
      have E0 := Lib.hid hok
      clear hBB nx hok hpg B0 hrd hrd1 hD hC hz xl
      generalize (l.drop (k * 64)).take 64 = xs at *
      go_wp2_with (first | ((with_reducible refine (hat _).mono ?_); rintro e w6 ⟨rfl, rfl⟩) | (with_reducible refine copy_into (w0 := wr.alloc (.cells (Array.replicate 64 (.int .u8 0)) 5)) (S := (· = wr.heap.size)) rfl (.tmp 26) (.tmp 30) 38 38 rfl 5 Try.underlying38 sz8 (some ⟨wr.heap.size, 0, none⟩) (some (ad.add (k * 64))) 64 64 (l.length - k * 64) (c - k * 64) rfl rfl wr.heap.size 0 (Array.replicate 64 (.int .u8 0)) 5 hbk (xs.map (Value.int .u8)) hmin (fun _ => rfl) hsrc hfit one (Chg.refl _ _) (.inl rfl) ?_; intro w5 h1 h2 h3) | fail)
      have hw := NX.out w5 h1 h2
      have hEF : ∀ E, (wrN s (slotAt gen) (page l) k).wrE (slotAt gen + 1 + k) 64 = E → E ≠ 0 → ∀ w6, Stp w0 w d ρ0 w6 (wrN s (slotAt gen) (page l) (k + 1)) → SavePost w0 w d ρ0 s gen l (.returned (.int .i64 E)) w6 := fun E h1 h2 w6 h3 => ⟨E, _, rfl, .inl ⟨k, by rw [← HP.out]; exact hlk, E0.out, h1, h2, rfl⟩, h3⟩
      have hEN : (wrN s (slotAt gen) (page l) k).wrE (slotAt gen + 1 + k) 64 = 0 → ∀ w6, Stp w0 w d ρ0 w6 (wrN s (slotAt gen) (page l) (k + 1)) → SvB w0 w d ρ0 s gen l (.int .i64 ((k : Int) + 1)) w6 := fun h1 w6 h3 => ⟨k + 1, by rw [← HP.out]; omega, rfl, fun j hj => by
        by_cases cj : j < k
        · exact E0.out j cj
        · obtain rfl : j = k := by omega
          exact h1, h3⟩
      have HEF := Lib.hid (And.intro hEF hEN)
      clear NX h1 h2 h3 hmin hfit hsrc one hbk E0 hEF hEN
      generalize (wrN s (slotAt gen) (page l) k).wrE (slotAt gen + 1 + k) 64 = E at *
      generalize wrN s (slotAt gen) (page l) (k + 1) = s2 at *
      by_cases hE : E = 0
      · subst hE
        refine hw.mono ?_
        rintro e w6 ⟨rfl, hS⟩
        have fin := HEF.out.2 rfl w6 hS
        clear hw HEF hS
        go_wp2_with fail
        exact ⟨fin, by simp [intOf]; omega⟩
      · have hEb : (E != 0) = true := by rw [bne_iff_ne]; exact hE
        refine hw.mono ?_
        rintro e w6 ⟨rfl, hS⟩
        have fin := HEF.out.1 E rfl hE w6 hS
        clear hw HEF hS hE
        go_wp2_with fail
        go_ret
        exact fin
    · obtain rfl : k = P := by omega
      have hPP := HP.out
      have hfl := l_flush hD
      have sv1 : (wrN s (slotAt gen) (page l) k).flE ≠ 0 → ∀ w', Stp w0 w d ρ0 w' (wrN s (slotAt gen) (page l) k).fl → SavePost w0 w d ρ0 s gen l (.returned (.int .i64 (wrN s (slotAt gen) (page l) k).flE)) w' := fun h1 w' h2 => ⟨_, _, rfl, .inr ⟨by rw [← hPP]; exact hok, .inl ⟨by rw [← hPP], h1, by rw [← hPP]⟩⟩, h2⟩
      have sv2 : (wrN s (slotAt gen) (page l) k).flE = 0 → ∀ E s', E = appE (wrN s (slotAt gen) (page l) k).fl (slotAt gen) (headL gen l) → s' = appS (wrN s (slotAt gen) (page l) k).fl (slotAt gen) (headL gen l) → ∀ w', Stp w0 w d ρ0 w' s' → SavePost w0 w d ρ0 s gen l (.returned (.int .i64 E)) w' := fun h1 E s' h2 h3 w' h4 => ⟨E, s', rfl, .inr ⟨by rw [← hPP]; exact hok, .inr ⟨by rw [← hPP]; exact h1, by rw [← hPP]; exact h2, by rw [← hPP]; exact h3⟩⟩, h4⟩
      have SV := Lib.hid (And.intro sv1 sv2)
      have HC := Lib.hid (And.intro hC hz)
      clear sv1 sv2 hD hC hz hok hPP HP
      generalize wrN s (slotAt gen) (page l) k = s1 at *
      by_cases hE : s1.flE = 0
      · rw [hE] at hfl
        have sv := Lib.hid (SV.out.2 hE)
        clear SV hE
        go_wp2_with fail
        refine hfl.mono ?_
        rintro e w2 ⟨rfl, hC2, ρ2, hD2, hi2⟩
        have st2 := Stp.step HC.out.1 HC.out.2 hD2 hC2 (fun i _ h0 => by
          by_cases c : ρ2 i = 0
          · exact c
          · exact absurd h0 ((hi2 i).mp c))
        have hhd := head_any gen A c l w2 g0 g1 (by omega) (HR.out.1.chg st2.choose_spec.2.1 HR.out.2.1) HR.out.2.2
        have hwr : ∀ w3 v g, Row w3 v g (headL gen l) → w2.heap.size ≤ g → Chg NoB w2 w3 → Calls Try.prog 63 #[.pointer (some ⟨d, 0, none⟩), .int .i64 (64 + gen % 2 * 16), v] w3 fun e w' => e = .returned (.int .i64 (s1.fl.wrE (slotAt gen) 64)) ∧ Stp w0 w d ρ0 w' (s1.fl.wr (slotAt gen) (headL gen l)) := by
          intro w3 v g hrow hg hc
          obtain ⟨ρ3, hD3, hC3, hz3⟩ := st2
          have zr : ρ3 g = 0 := by
            obtain ⟨_, _, _, _, _, _, _, hp⟩ := hD3.at_
            exact hp.rz g hg
          have hrd := hrow.rd
          obtain ⟨hln, hby, cp, Cq, rfl, _⟩ := hrow
          have hw := l_write (slotAt gen) (some ⟨g, 0, none⟩) cp (headL gen l) (hD3.keep hc) hby hrd (fun _ ad e x => by
            obtain rfl := Option.some.inj e
            exact x zr)
          rw [headL_len] at hw
          refine hw.mono ?_
          rintro e w6 ⟨rfl, hC6, ρ6, hD6, hz6⟩
          rw [headL_len]
          exact ⟨rfl, Stp.step (hC3.trans hc (fun _ _ x => x.elim)) hz3 hD6 hC6 hz6⟩
        have HW := Lib.hid hwr
        clear hfl hC2 hD2 hi2 st2 hwr HC HR
        go_wp2_with (first | ((with_reducible refine (hat _).mono ?_); rintro e w6 ⟨rfl, rfl⟩) | ((with_reducible refine hhd.mono ?_); rintro e w3 ⟨v, g, rfl, hrow, hg, hC3⟩; have hw := HW.out w3 v g hrow hg hC3) | fail)
        have ea : appE s1.fl (slotAt gen) (headL gen l) = if s1.fl.wrE (slotAt gen) 64 = 0 then (s1.fl.wr (slotAt gen) (headL gen l)).flE else s1.fl.wrE (slotAt gen) 64 := by unfold appE; rw [headL_len]
        have es : appS s1.fl (slotAt gen) (headL gen l) = if s1.fl.wrE (slotAt gen) 64 = 0 then (s1.fl.wr (slotAt gen) (headL gen l)).fl else s1.fl.wr (slotAt gen) (headL gen l) := by unfold appS; rw [headL_len]
        have sv3 := sv.out
        rw [ea, es] at sv3
        clear sv ea es HW hhd hrow hC3
        generalize s1.fl.wrE (slotAt gen) 64 = E at *
        generalize s1.fl.wr (slotAt gen) (headL gen l) = s2 at *
        by_cases hE : E = 0
        · subst hE
          rw [if_pos rfl, if_pos rfl] at sv3
          have sv := Lib.hid (sv3 s2.flE s2.fl rfl rfl)
          clear sv3
          refine hw.mono ?_
          rintro e w4 ⟨rfl, ρ4, hD4, hC4, hz4⟩
          have hfl := l_flush hD4
          have HC4 := Lib.hid (And.intro hC4 hz4)
          clear hw hD4 hC4 hz4
          generalize s2.flE = E2 at *
          go_wp2_with fail
          refine hfl.mono ?_
          rintro e w5 ⟨rfl, hC5, ρ5, hD5, hi5⟩
          have fin := sv.out w5 (Stp.step HC4.out.1 HC4.out.2 hD5 hC5 (fun i _ h0 => by
            by_cases c : ρ5 i = 0
            · exact c
            · exact absurd h0 ((hi5 i).mp c)))
          clear hfl hC5 hD5 hi5 sv HC4
          go_wp2_with fail
          go_ret
          exact fin
        · have hEb : (E != 0) = true := by rw [bne_iff_ne]; exact hE
          rw [if_neg hE, if_neg hE] at sv3
          have sv := Lib.hid (sv3 E s2 rfl rfl)
          clear sv3 hE
          refine hw.mono ?_
          rintro e w4 ⟨rfl, hS4⟩
          have fin := sv.out w4 hS4
          clear hw hS4 sv
          go_wp2_with fail
          go_ret
          exact fin
      · have sv := SV.out.1 hE
        have hEb : (s1.flE != 0) = true := by rw [bne_iff_ne]; exact hE
        have SVh := Lib.hid sv
        clear SV hE sv HR
        generalize s1.flE = E at *
        go_wp2_with fail
        refine hfl.mono ?_
        rintro e w2 ⟨rfl, hC2, ρ2, hD2, hi2⟩
        have fin := SVh.out w2 (Stp.step HC.out.1 HC.out.2 hD2 hC2 (fun i _ h0 => by
          by_cases c : ρ2 i = 0
          · exact c
          · exact absurd h0 ((hi2 i).mp c)))
        clear hfl hC2 hD2 hi2 SVh HC
        go_wp2_with fail
        go_ret
        exact fin
end Go.Proofs.YtolojkfpokmdkaaRR.Slot

-- XSlotC
namespace Go.Proofs.YtolojkfpokmdkaaRR.Slot
open Go.RowKit Go.Proofs.YtolojkfpokmdkaaRR.Hp Go.Proofs.YtolojkfpokmdkaaRR.By Go.Proofs.YtolojkfpokmdkaaRR.Disk Go.Proofs.YtolojkfpokmdkaaRR.Word Go.Proofs.YtolojkfpokmdkaaRR.WordP Go.Proofs.YtolojkfpokmdkaaRR.Log
set_option linter.unusedVariables false
set_option linter.unusedSimpArgs false
section
variable {P : Program} {ops : Array Oper} {rest : List Oper} {o : Oper} {a : Act} {Q : Exit → Act → World → Prop}
/-- append of all that another slice holds, onto a slice of the call's own: only its own block changes -/
theorem append_src2 {w : World} (base : Nat) (hgd : o.guard = none) (s x : Operand) (t e : TypeId) (ho : o.op = .call { callee := .builtin .append, args := #[s, x], argTypes := #[t, t] })
    (z : Value) (bytes : Nat) (ht : P.underlying t = some (.slice e)) (hinfo : (P.info? e).map (fun i => (i.zero, i.size, i.bytes)) = some (some z, 1, bytes)) (hz : z.cells.size = 1)
    (v : Value) (n : Nat) (ys : List Value) (hs : a.eval s = v) (hbase : base ≤ w.heap.size) (hown : w.ownsRow base e 1 v n ys) (xs : List Value) (ad : Addr) (c : Nat) (hx : a.eval x = .slice (some ad) xs.length c)
    (hsrc : ∀ j v, xs[j]? = some v → w.cell? (ad.add j) = some v) (hu : ∀ u ∈ xs, u.oneCell' = true)
    (h1 : n + xs.length ≤ 9223372036854775807) (h2 : (n + xs.length) * bytes ≤ 140737488355328)
    (h : ∀ v' w', w'.ownsRow base e 1 v' (n + xs.length) (ys ++ xs) → Chg (fun i => v.ownBlock = some i) w w' → wpList P ops Q rest (a.put o.dst v') w') :
    wpList P ops Q (o :: rest) a w := by
  obtain ⟨i0, hi, hz0, hz1, hz2⟩ := info_parts hinfo
  refine wpList_append_own _ hgd s x t ho base e i0 z 1 bytes ht hi hz0 hz1 hz2 hz (by decide) v n ys hs hown ad xs.length c xs hx (by simp) hsrc hu (by unfold maxLen; omega) h2 hbase ?_
  intro v' w' hown' hgrow _
  exact h v' w' hown' (Chg.of_grownBy hgrow (fun j hj => .inl hj))
end
theorem results_tmp4 {fn : Func} {t u v x : Tmp} (h : fn.results = #[.tmp t, .tmp u, .tmp v, .tmp x]) (tmps : Array Value) (P : Program) (w : World) :
    (results fn tmps).run P w = .ok (.tuple #[tmps.getD t undef, tmps.getD u undef, tmps.getD v undef, tmps.getD x undef]) w := by
  simp [results, h]
/-- what sectors say, one behind the other -/
def cat (f : Nat → List Int) (a : Nat) : Nat → List Int
  | 0 => []
  | k + 1 => cat f a k ++ f (a + k)
/-- a slot's gen and bytes, where it is whole -/
def oneOf (f : Nat → List Int) (which : Nat) : Option (Int × List Int) :=
  if 960 < leN (((f (64 + 16 * which)).drop 4).take 4) then none else
  if leN (((f (64 + 16 * which)).drop 0).take 4) % 2 = which ∧ headL (leN (((f (64 + 16 * which)).drop 0).take 4)) ((cat f (64 + 16 * which + 1) (((leN (((f (64 + 16 * which)).drop 4).take 4)).toNat + 63) / 64)).take (leN (((f (64 + 16 * which)).drop 4).take 4)).toNat) = f (64 + 16 * which) then
    some (leN (((f (64 + 16 * which)).drop 0).take 4), (cat f (64 + 16 * which + 1) (((leN (((f (64 + 16 * which)).drop 4).take 4)).toNat + 63) / 64)).take (leN (((f (64 + 16 * which)).drop 4).take 4)).toNat) else none
/-- bytes of the call's own, behind a base -/
def OwnB (base : Nat) (w : World) (v : Value) (b : List Int) : Prop := ∃ A c, v = .slice A b.length c ∧ b.length ≤ c ∧ Rd w .u8 A b ∧ Off A (fun i => i < base) ∧ Bytes b ∧ ∀ ad, A = some ad → ∃ g, ad = ⟨g, 0, none⟩
theorem OwnB.chg {S : Nat → Prop} {base : Nat} {w w' : World} {v : Value} {b : List Int} (h : OwnB base w v b) (hc : Chg S w w') (hS : ∀ i, S i → i < base) : OwnB base w' v b := by
  obtain ⟨A, c, e, h0, h1, h2, h3, h4⟩ := h
  exact ⟨A, c, e, h0, h1.chg hc (fun _ ad e x => h2 ad e (hS _ x)), h2, h3, h4⟩
def Says (s : DSt) (f : Nat → List Int) : Prop := Disk.Calm s ∧ s.n = 192 ∧ ∀ j : Nat, s.get (j : Int) = f j
def OnePost (w0 w : World) (d : Nat) (ρ : Nat → Nat) (s : DSt) (f : Nat → List Int) (which : Nat) (e : Ending) (w' : World) : Prop :=
  ∃ g v ok, e = .returned (.tuple #[.int .u32 g, v, .bool ok, .int .i64 0]) ∧ Chg (Own ρ) w w' ∧ DL w0 w' d ρ s ∧ 0 ≤ g ∧ g < 4294967296 ∧ ((oneOf f which = none ∧ ok = false) ∨ ∃ b, oneOf f which = some (g, b) ∧ ok = true ∧ OwnB w.heap.size w' v b)
def OnB (w0 w : World) (d : Nat) (ρ : Nat → Nat) (s : DSt) (f : Nat → List Int) (a : Nat) (P : Nat) (out i : Value) (wr : World) : Prop :=
  ∃ k : Nat, k ≤ P ∧ i = .int .i64 k ∧ wr.ownsRow w.heap.size 5 1 out (64 * k) ((cat f a k).map (Value.int .u8)) ∧ Bytes (cat f a k) ∧ Chg (Own ρ) w wr ∧ DL w0 wr d ρ s
theorem leN4 {l : List Int} (hb : Bytes l) (hl : l.length = 64) (a : Nat) (ha : a + 4 ≤ 64) : 0 ≤ leN ((l.drop a).take 4) ∧ leN ((l.drop a).take 4) < 4294967296 := by
  have h := leN_range ((l.drop a).take 4) (fun x hx => hb x (List.mem_of_mem_drop (List.mem_of_mem_take hx)))
  rw [List.length_take, List.length_drop, Nat.min_eq_left (by omega)] at h
  have e : (256 : Int) ^ 4 = 4294967296 := by decide
  rw [e] at h
  exact h
theorem rd_take {w : World} {A : Option Addr} {l : List Int} (h : Rd w .u8 A l) (n : Nat) : Rd w .u8 A (l.take n) := by
  refine ⟨by have := h.1; rw [List.length_take]; omega, fun hp => ?_⟩
  rw [List.length_take] at hp
  obtain ⟨ad, e, _⟩ := h.at_ 0 (by omega)
  refine ⟨ad, e, fun j hj => ?_⟩
  rw [List.length_take] at hj
  obtain ⟨ad', e', hc⟩ := h.at_ j (by omega)
  rw [e] at e'
  obtain rfl := Option.some.inj e'
  rw [hc, List.getD_eq_getElem?_getD, List.getD_eq_getElem?_getD, List.getElem?_take, if_pos (by omega)]
theorem cat_len {f : Nat → List Int} {a k : Nat} (h : ∀ j, j < k → (f (a + j)).length = 64) : (cat f a k).length = 64 * k := by
  induction k with
  | zero => rfl
  | succ k ih =>
    show (cat f a k ++ f (a + k)).length = _
    rw [List.length_append, ih (fun j hj => h j (by omega)), h k (by omega)]; omega
def RdGood (w0 w : World) (d : Nat) (ρ : Nat → Nat) (s : DSt) (l : List Int) (e : Ending) (w' : World) : Prop :=
  ∃ g cp, e = .returned (.tuple #[.slice (some ⟨g, 0, none⟩) 64 cp, .int .i64 0]) ∧ DL w0 w' d ρ s ∧ Chg (Own ρ) w w' ∧ Row w' (.slice (some ⟨g, 0, none⟩) 64 cp) g l ∧ w.heap.size ≤ g
theorem says_read {w0 w : World} {d : Nat} {ρ : Nat → Nat} {s : DSt} {f : Nat → List Int} (h : DL w0 w d ρ s) (hs : Says s f) (j : Nat) (hj : j < 192) :
    Calls Try.prog 46 #[.pointer (some ⟨d, 0, none⟩), .int .i64 (j : Int)] w (RdGood w0 w d ρ s (f j)) := by
  have e0 : s.ioE (j : Int) = 0 := calm_ioE hs.1 (by omega) (by rw [hs.2.1]; omega)
  have eio : s.io (j : Int) = s := calm_io hs.1 _
  refine (l_read (j : Int) h).mono ?_
  rintro e w' ⟨v, rfl, h1, h2, h3, _⟩
  rw [e0]
  rw [eio] at h1
  obtain ⟨g, hrow, hg⟩ := h3 e0
  rw [hs.2.2] at hrow
  have hrow2 := hrow
  obtain ⟨_, _, cp, Cq, rfl, _⟩ := hrow
  exact ⟨g, cp, rfl, h1, h2, hrow2, hg⟩
theorem own_lt_size {w0 w : World} {d : Nat} {ρ : Nat → Nat} {s : DSt} (h : DL w0 w d ρ s) : ∀ i, Own ρ i → i < w.heap.size := fun i hi => by
  obtain ⟨_, _, _, _, _, _, _, hp⟩ := h.at_
  by_cases c : i < w.heap.size
  · exact c
  · exact absurd (hp.rz i (by omega)) hi
set_option maxRecDepth 100000 in
set_option maxHeartbeats 20000000 in
theorem one_any {w0 w : World} {d : Nat} {ρ : Nat → Nat} {s : DSt} {f : Nat → List Int} (which : Nat) (hw : which < 2) (h : DL w0 w d ρ s) (hs : Says s f) :
    Calls Try.prog 45 #[.pointer (some ⟨d, 0, none⟩), .int .u32 which] w (OnePost w0 w d ρ s f which) := by
  have hρ := own_lt_size h
  have hat := fun w => at_any (which : Int) w (by omega) (by omega)
  have hrd : ∀ k : Nat, k ≤ 20 → ∀ w', DL w0 w' d ρ s → Calls Try.prog 46 #[.pointer (some ⟨d, 0, none⟩), .int .i64 (64 + (which : Int) % 2 * 16 + 1 + k)] w' (RdGood w0 w' d ρ s (f (64 + 16 * which + 1 + k))) := fun k hk w' h' => by
    have := says_read h' hs (64 + 16 * which + 1 + k) (by omega)
    rwa [show ((64 + 16 * which + 1 + k : Nat) : Int) = 64 + (which : Int) % 2 * 16 + 1 + k by omega] at this
  have hr1 : Calls Try.prog 46 #[.pointer (some ⟨d, 0, none⟩), .int .i64 (64 + (which : Int) % 2 * 16)] w (RdGood w0 w d ρ s (f (64 + 16 * which))) := by
    have := says_read h hs (64 + 16 * which) (by omega)
    rwa [show ((64 + 16 * which : Nat) : Int) = 64 + (which : Int) % 2 * 16 by omega] at this
  have hsz := h.ch.size
  have RD := Lib.hid (And.intro hrd (And.intro hρ hsz))
  clear hs hρ h hrd hsz
  obtain ⟨H, hH⟩ : ∃ H, H = f (64 + 16 * which) := ⟨_, rfl⟩
  have HH := Lib.hid hH
  rw [← hH] at hr1
  clear hH
  go_enter Try.func45, Try.ntmps45
  go_wp2_with fail
  refine (hat _).mono ?_
  rintro e w1 ⟨rfl, rfl⟩
  go_wp2_with fail
  refine hr1.mono ?_
  rintro e w2 ⟨g, cp, rfl, hD, hC, hrow, hg⟩
  have hrd2 := hrow.rd
  have hHl := hrow.1
  have hHb : Bytes H := fun x hx => by have := hrow.2.1 x hx; omega
  have gt1 := get_yes (some ⟨g, 0, none⟩) cp H 0 4 w2 hrd2 hHb (by omega) (by omega)
  have gt2 := get_yes (some ⟨g, 0, none⟩) cp H 4 4 w2 hrd2 hHb (by omega) (by omega)
  rw [hHl] at gt1 gt2
  have b1 := leN4 hHb hHl 0 (by omega)
  have b2 := leN4 hHb hHl 4 (by omega)
  obtain ⟨G, hG⟩ : ∃ G, G = leN ((H.drop 0).take 4) := ⟨_, rfl⟩
  obtain ⟨n, hn⟩ : ∃ n : Nat, (n : Int) = leN ((H.drop 4).take 4) := ⟨(leN ((H.drop 4).take 4)).toNat, by omega⟩
  rw [← hG] at gt1 b1
  rw [← hn] at gt2 b2
  have HG := Lib.hid (And.intro hG hn)
  have HD := Lib.hid (And.intro hD (And.intro hC (And.intro hrow (And.intro hg (And.intro hHl hHb)))))
  clear hr1 hD hC hrow hg hrd2 hHl hHb hG hn
  obtain ⟨g0, g1⟩ := b1
  obtain ⟨n0, n1⟩ := b2
  go_wp2_with fail
  refine gt1.mono ?_
  rintro e w3 ⟨rfl, rfl⟩
  clear gt1
  go_wp2_with fail
  refine gt2.mono ?_
  rintro e w3 ⟨rfl, rfl⟩
  clear gt2
  by_cases hbig : 960 < n
  · have hb2 : decide (960 < (n : Int)) = true := decide_eq_true (by omega)
    have fin : OnePost w0 w d ρ s f which (.returned (.tuple #[.int .u32 0, .slice none 0 0, .bool false, .int .i64 0])) w2 := by
      refine ⟨0, _, false, rfl, HD.out.2.1, HD.out.1, by omega, by omega, .inl ⟨?_, rfl⟩⟩
      unfold oneOf
      rw [← HH.out, ← HG.out.2, if_pos (by omega)]
    clear HD RD HG HH hbig
    go_wp2_with fail
    (try simp only [Exit.inBlock, Exit.then])
    refine bodyPost_ret (results_tmp4 rfl _ _ _) rfl ?_
    exact fin
  · have hb2 : decide (960 < (n : Int)) = false := decide_eq_false (by omega)
    have hpg := fun w => pages_any n w (by omega)
    have hB : OnB w0 w2 d ρ s f (64 + 16 * which + 1) ((n + 63) / 64) (.slice none 0 0) (.int .i64 0) w2 := ⟨0, by omega, rfl, World.ownsRow_nil _ _ _ _, (fun x hx => by cases hx), Chg.refl _ _, HD.out.1⟩
    obtain ⟨P, hP⟩ : ∃ P, P = (n + 63) / 64 := ⟨_, rfl⟩
    have hPn : P ≤ 15 := by omega
    go_wp2_with fail
    refine (hpg _).mono ?_
    rintro e w3 ⟨rfl, rfl⟩
    rw [← hP] at hB ⊢
    have HP := Lib.hid hP
    clear hpg hP
    go_wp2_with fail
    go_loopw [5, 41] (fun out i wr => OnB w0 w2 d ρ s f (64 + 16 * which + 1) P out i wr) (fun _ i wr => (64 - intOf i).toNat)
    case atStart => exact hB
    case round =>
      clear hB
      obtain ⟨k, hk, rfl, hown, hby, hC, hD⟩ := hrel
      by_cases hlt : k < P
      · have hr := RD.out.1 k (by omega) wr hD
        have H1 := Lib.hid (And.intro hC (And.intro hown hby))
        have hcat : cat f (64 + 16 * which + 1) (k + 1) = cat f (64 + 16 * which + 1) k ++ f (64 + 16 * which + 1 + k) := rfl
        obtain ⟨L, hL⟩ : ∃ L, L = f (64 + 16 * which + 1 + k) := ⟨_, rfl⟩
        rw [← hL] at hr hcat
        have HL := Lib.hid hcat
        clear hC hown hby hD hcat hL
        go_wp2_with fail
        refine (hat _).mono ?_
        rintro e w4 ⟨rfl, rfl⟩
        go_wp2_with fail
        refine hr.mono ?_
        rintro e w4 ⟨g4, cp4, rfl, hD4, hC4, hrow4, hg4⟩
        have hsz2 := HD.out.2.1.size
        have hsz4 : w2.heap.size ≤ w4.heap.size := by have := H1.out.1.size; have := hC4.size; omega
        have hown4 := own_chg H1.out.2.1 hC4 (fun g hg x => by have := (own_ge H1.out.2.1 g hg).1; have := RD.out.2.1 g x; omega)
        have hl4 := hrow4.1
        have hxl : (L.map (Value.int .u8)).length = 64 := by rw [List.length_map]; exact hl4
        have HXl := Lib.hid (show ∀ v, v = Value.slice (some ⟨g4, 0, none⟩) 64 cp4 → v = .slice (some ⟨g4, 0, none⟩) (L.map (Value.int .u8)).length cp4 from fun v h => by rw [hxl]; exact h)
        have hsrc : ∀ j v, (L.map (Value.int .u8))[j]? = some v → w4.cell? ((⟨g4, 0, none⟩ : Addr).add j) = some v := fun j v hj => by
          obtain ⟨ad, e, hc⟩ := rd_src hrow4.rd (by have := (List.getElem?_eq_some_iff.1 hj).1; omega)
          obtain rfl := Option.some.inj e
          exact hc j v hj
        have b3 : 64 * k + (L.map (Value.int .u8)).length ≤ 9223372036854775807 := by omega
        have b4 : (64 * k + (L.map (Value.int .u8)).length) * 1 ≤ 140737488355328 := by omega
        have onel := one_u8 L
        have fin : ∀ v' w5, w5.ownsRow w2.heap.size 5 1 v' (64 * k + (L.map (Value.int .u8)).length) ((cat f (64 + 16 * which + 1) k).map (Value.int .u8) ++ L.map (Value.int .u8)) → Chg (fun i => u5.ownBlock = some i) w4 w5 → OnB w0 w2 d ρ s f (64 + 16 * which + 1) P v' (.int .i64 ((k : Int) + 1)) w5 := by
          intro v' w5 h5 hC5
          have nO : ∀ i, u5.ownBlock = some i → w2.heap.size ≤ i := fun i hi => (own_ge hown4 i hi).1
          refine ⟨k + 1, by omega, rfl, ?_, ?_, (H1.out.1.trans hC4 (fun _ _ x => x)).trans hC5 (fun i hi x => by have := nO i x; omega), ?_⟩
          · rw [HL.out, List.map_append]
            rw [hxl] at h5
            exact h5
          · rw [HL.out]
            intro x hx
            rcases List.mem_append.mp hx with hx | hx
            · exact H1.out.2.2 x hx
            · have := hrow4.2.1 x hx; omega
          · cases ho : u5.ownBlock with
            | none => exact hD4.keep (hC5.mono (fun i _ x => by rw [ho] at x; cases x))
            | some g' =>
              refine hD4.side (g := g') (hC5.mono (fun i _ x => by rw [ho] at x; exact (Option.some.inj x).symm)) ?_ (by have := nO g' ho; have := RD.out.2.2; omega)
              by_cases c : ρ g' = 0
              · exact c
              · have := RD.out.2.1 g' c; have := nO g' ho; omega
        have FN := Lib.hid fin
        clear fin hsz2 hr hD4 hC4 hrow4 hl4 hxl
        go_wp2_with (first | (at_builtin; refine append_src2 w2.heap.size rfl (.tmp 57) (.tmp 58) 38 5 rfl (.int .u8 0) 1 Try.underlying38 info8 rfl u5 (64 * k) _ rfl hsz4 hown4 (L.map (Value.int .u8)) ⟨g4, 0, none⟩ cp4 (HXl.out _ rfl) hsrc onel b3 b4 ?_; intro v' w5 hown5 hC5) | go_in)
        exact ⟨FN.out v' w5 hown5 hC5, by simp [intOf]; omega⟩
      · obtain rfl : k = P := by omega
        have hfm : ∀ A c, u5 = .slice A (64 * k) c → ∀ ad, A = some ad → ∃ g, ad = ⟨g, 0, none⟩ := fun A c e ad h => by
          rcases hown.2 with ⟨e2, _⟩ | ⟨g, cap, cur, e2, _⟩
          · rw [e] at e2; injection e2 with e3; rw [h] at e3; cases e3
          · rw [e] at e2; injection e2 with e3; rw [h] at e3; exact ⟨g, Option.some.inj e3⟩
        obtain ⟨A, cA, rfl, hlen, hcp, hrdA, hoffA⟩ := own_rd hown (by omega)
        have hfm2 := hfm A cA rfl
        clear hfm
        have hnk : n ≤ 64 * k := by have := HP.out; omega
        have htl : ((cat f (64 + 16 * which + 1) k).take n).length = n := by rw [List.length_take]; omega
        have hbt : Bytes ((cat f (64 + 16 * which + 1) k).take n) := fun x hx => hby x (List.mem_of_mem_take hx)
        have hrt := rd_take hrdA n
        have hone : oneOf f which = if G % 2 = (which : Int) ∧ headL G ((cat f (64 + 16 * which + 1) k).take n) = H then some (G, (cat f (64 + 16 * which + 1) k).take n) else none := by
          unfold oneOf
          rw [← HH.out, ← HG.out.2, ← HG.out.1, if_neg (by omega), Int.toNat_natCast, ← HP.out]
        have hown' := fun w' (hc : Chg NoB wr w') => hrt.chg hc (fun _ _ _ x => x)
        have hhd := head_any G A cA ((cat f (64 + 16 * which + 1) k).take n) wr.drew g0 g1 (by omega) (hrt.chg ((Chg.refl NoB wr).drew) (fun _ _ _ x => x)) hbt
        rw [htl] at hhd
        have i1 : n ≤ cA := by omega
        have hrow5 := HD.out.2.2.1.chg hC (fun x => by have := RD.out.2.1 g x; have := HD.out.2.2.2.1; omega)
        have fin0 : ∀ w', Chg NoB wr w' → (oneOf f which = none) → OnePost w0 w d ρ s f which (.returned (.tuple #[.int .u32 G, .slice A n cA, .bool false, .int .i64 0])) w' := fun w' hc hn => ⟨G, _, false, rfl, (HD.out.2.1.trans hC (fun _ _ x => x)).trans hc (fun _ _ x => x.elim), hD.keep hc, g0, g1, .inl ⟨hn, rfl⟩⟩
        have fin1 : ∀ w', Chg NoB wr w' → oneOf f which = some (G, (cat f (64 + 16 * which + 1) k).take n) → OnePost w0 w d ρ s f which (.returned (.tuple #[.int .u32 G, .slice A n cA, .bool true, .int .i64 0])) w' := fun w' hc hn => ⟨G, _, true, rfl, (HD.out.2.1.trans hC (fun _ _ x => x)).trans hc (fun _ _ x => x.elim), hD.keep hc, g0, g1, .inr ⟨_, hn, rfl, A, cA, by rw [htl], by rw [htl]; exact i1, hown' w' hc, fun ad e x => hoffA ad e (by have := HD.out.2.1.size; show ad.block < w2.heap.size; have : ad.block < w.heap.size := x; omega), hbt, hfm2⟩⟩
        have hS : ∀ w', Chg NoB wr w' → (convert 38 9 (.slice (some ⟨g, 0, none⟩) 64 cp)).run Try.prog w' = .ok (.string (strOfNums H)) w' := fun w' hc => row_str (hrow5.chg hc (fun x => x))
        have hw0 := hS wr.drew ((Chg.refl NoB wr).drew)
        have FF := Lib.hid (And.intro fin0 (And.intro fin1 (And.intro hone (And.intro hS (And.intro hbt HD.out.2.2.2.2.2)))))
        clear fin0 fin1 hone hS hbt hfm2 hown' hrt hrdA hoffA hown hby hC hD hrow5 HD RD HG HH htl hlen
        generalize (cat f (64 + 16 * which + 1) k).take n = bs at *
        by_cases hpar : G % 2 = (which : Int)
        · have hpb : (G.tmod 2 == (which : Int)) = true := by rw [beq_iff_eq, Int.tmod_eq_emod_of_nonneg g0]; exact hpar
          have HPB := Lib.hid hpar
          clear hpar
          generalize hSS : headL G bs = S at *
          have hSb : ∀ x ∈ S, 0 ≤ x ∧ x ≤ 255 := fun x hx => by rw [← hSS] at hx; have := headL_bytes G bs x hx; omega
          have HSb := Lib.hid (And.intro hSb hSS)
          clear hSb hSS
          have i2 : (n : Int) ≤ (cA : Int) := by omega
          go_wp2_with fail
          go_region_held_law (fun w' => (convert 38 9 (.slice (some ⟨g, 0, none⟩) 64 cp)).run Try.prog w' = .ok (.string (strOfNums H)) w') (first | exact hcs | exact hw0 | go_keep)
            (first | (go_at_call 58; ((with_reducible refine hhd.mono ?_); rintro e w6 ⟨v, g2, rfl, hrow2, hg2, hC2⟩; have hcv := row_str hrow2; have hcs := FF.out.2.2.2.1 w6 (((Chg.refl NoB wr).drew).trans hC2 (fun _ _ x => x)))))
          all_goals
            have fin : OnePost w0 w d ρ s f which (.returned (.tuple #[.int .u32 G, .slice A n cA, .bool ((strOfNums S).toList == (strOfNums H).toList), .int .i64 0])) w6 := by
              have hcw : Chg NoB wr w6 := ((Chg.refl NoB wr).drew).trans hC2 (fun _ _ x => x)
              obtain ⟨f0, f1, ho, _, _, hHb⟩ := FF.out
              by_cases e : S = H
              · rw [if_pos ⟨HPB.out, e⟩] at ho
                have := f1 w6 hcw ho
                rwa [show ((strOfNums S).toList == (strOfNums H).toList) = true by rw [e]; simp]
              · rw [if_neg (fun x => e x.2)] at ho
                have := f0 w6 hcw ho
                rwa [show ((strOfNums S).toList == (strOfNums H).toList) = false by
                  rw [beq_eq_false_iff_ne]
                  intro h
                  rw [ByteArray.toList_eq, ByteArray.toList_eq] at h
                  exact e (str_inj HSb.out.1 (fun x hx => by have := hHb x hx; omega) (WideShapes.bytes_inj h))]
            clear FF hcv hcs hrow2 hC2 hw0 hhd HSb HPB
            generalize ((strOfNums S).toList == (strOfNums H).toList) = ok at *
            go_wp2_with fail
            (try simp only [Exit.inBlock, Exit.then])
            refine bodyPost_ret (results_tmp4 rfl _ _ _) rfl ?_
            exact fin
        · have hpb : (G.tmod 2 == (which : Int)) = false := by rw [beq_eq_false_iff_ne, Int.tmod_eq_emod_of_nonneg g0]; exact hpar
          have fin := fun w' hc => FF.out.1 w' hc (by rw [FF.out.2.2.1, if_neg (fun x => hpar x.1)])
          have FN := Lib.hid fin
          have i2 : (n : Int) ≤ (cA : Int) := by omega
          clear fin FF hhd hpar hat hw0 HP
          go_wp2_with fail
          go_quiet (fail)
          go_wp2_with fail
          (try simp only [Exit.inBlock, Exit.then])
          refine bodyPost_ret (results_tmp4 rfl _ _ _) rfl ?_
          exact FN.out _ ((Chg.refl NoB wr).drewN _)
end Go.Proofs.YtolojkfpokmdkaaRR.Slot

-- XSlotD
namespace Go.Proofs.YtolojkfpokmdkaaRR.Slot
open Go.RowKit Go.Proofs.YtolojkfpokmdkaaRR.Hp Go.Proofs.YtolojkfpokmdkaaRR.By Go.Proofs.YtolojkfpokmdkaaRR.Disk Go.Proofs.YtolojkfpokmdkaaRR.Word Go.Proofs.YtolojkfpokmdkaaRR.WordP Go.Proofs.YtolojkfpokmdkaaRR.Log
set_option linter.unusedVariables false
set_option linter.unusedSimpArgs false
/-- the later one of those that are whole -/
def pick1 (p : Int × List Int) (o : Option (Int × List Int)) : Int × List Int := match o with | none => p | some q => if p.1 ≤ q.1 then q else p
def loadOf (f : Nat → List Int) : Int × List Int := pick1 (pick1 (0, []) (oneOf f 0)) (oneOf f 1)
def LoadPost (w0 w : World) (d : Nat) (ρ : Nat → Nat) (s : DSt) (f : Nat → List Int) (e : Ending) (w' : World) : Prop :=
  ∃ v, e = .returned (.tuple #[.int .u32 (loadOf f).1, v, .int .i64 0]) ∧ Chg (Own ρ) w w' ∧ DL w0 w' d ρ s ∧ OwnB w.heap.size w' v (loadOf f).2 ∧ 0 ≤ (loadOf f).1 ∧ (loadOf f).1 < 4294967296
def part (f : Nat → List Int) : Nat → Int × List Int
  | 0 => (0, [])
  | k + 1 => pick1 (part f k) (oneOf f k)
def LdR (w0 w : World) (d : Nat) (ρ : Nat → Nat) (s : DSt) (f : Nat → List Int) (g v i : Value) (wr : World) : Prop :=
  ∃ k : Nat, k ≤ 2 ∧ i = .int .u32 k ∧ g = .int .u32 (part f k).1 ∧ 0 ≤ (part f k).1 ∧ (part f k).1 < 4294967296 ∧ OwnB w.heap.size wr v (part f k).2 ∧ Chg (Own ρ) w wr ∧ DL w0 wr d ρ s
theorem OwnB.base {base base' : Nat} {w : World} {v : Value} {b : List Int} (h : OwnB base' w v b) (hb : base ≤ base') : OwnB base w v b := by
  obtain ⟨A, c, e, h0, h1, h2, h3, h4⟩ := h
  exact ⟨A, c, e, h0, h1, fun ad e x => h2 ad e (by show ad.block < base'; have : ad.block < base := x; omega), h3, h4⟩
theorem own_empty (base : Nat) (w : World) : OwnB base w (.slice none 0 0) [] := ⟨none, 0, rfl, Nat.le_refl _, ⟨by decide, fun hp => absurd hp (by decide)⟩, fun ad e => (by cases e), (fun x hx => (by cases hx)), fun ad e => (by cases e)⟩
theorem load_nil (w : World) : Calls Try.prog 33 #[.pointer none] w fun e w' => e = .returned (.tuple #[.int .u32 0, .slice none 0 0, .int .i64 1]) ∧ w = w' := by
  go_enter Try.func33, Try.ntmps33
  go_wp2_with fail
  go_ret3
  exact ⟨rfl, rfl⟩
set_option maxRecDepth 100000 in
set_option maxHeartbeats 1000000 in
theorem load_any {w0 w : World} {d : Nat} {ρ : Nat → Nat} {s : DSt} {f : Nat → List Int} (h : DL w0 w d ρ s) (hs : Says s f) :
    Calls Try.prog 33 #[.pointer (some ⟨d, 0, none⟩)] w (LoadPost w0 w d ρ s f) := by
  have hB : LdR w0 w d ρ s f (.int .u32 0) (.slice none 0 0) (.int .u32 0) w := ⟨0, by omega, rfl, rfl, by show (0 : Int) ≤ 0; omega, by show (0 : Int) < 4294967296; omega, own_empty _ _, Chg.refl _ _, h⟩
  have hρ := own_lt_size h
  have hsz := h.ch.size
  have RD := Lib.hid (And.intro hs hρ)
  clear hs hρ h
  go_enter Try.func33, Try.ntmps33
  go_wp2_with fail
  go_loopw [2, 3, 12] (fun g v i wr => LdR w0 w d ρ s f g v i wr) (fun g v i wr => (2 - intOf i).toNat)
  case atStart => exact hB
  case round =>
    clear hB
    obtain ⟨k, hk, rfl, rfl, g0, g1, hv, hC, hD⟩ := hrel
    by_cases hlt : k < 2
    · have ho := one_any k hlt hD RD.out.1
      have H := Lib.hid (And.intro hv hC)
      have hpt : part f (k + 1) = pick1 (part f k) (oneOf f k) := rfl
      have HP := Lib.hid hpt
      obtain ⟨g1', hg1⟩ : ∃ x, x = (part f k).1 := ⟨_, rfl⟩
      have HG := Lib.hid hg1
      rw [← hg1] at g0 g1 ⊢
      clear hv hC hD hpt hg1
      go_wp2_with fail
      refine ho.mono ?_
      rintro e w2 ⟨g, v2, ok, rfl, hC2, hD2, q0, q1, hcase⟩
      have hv2 := H.out.1.chg hC2 RD.out.2
      have hCC := H.out.2.trans hC2 (fun _ _ x => x)
      rcases hcase with ⟨hn, rfl⟩ | ⟨b, hn, rfl, hb⟩
      · have fin : LdR w0 w d ρ s f (.int .u32 g1') u3 (.int .u32 ((k : Int) + 1)) w2 := ⟨k + 1, by omega, by push_cast; rfl, by rw [HP.out, hn, HG.out]; rfl, by rw [HP.out, hn]; show 0 ≤ (part f k).1; rw [← HG.out]; exact g0, by rw [HP.out, hn]; show (part f k).1 < _; rw [← HG.out]; exact g1, by rw [HP.out, hn]; exact hv2, hCC, hD2⟩
        clear ho H HP HG hv2 hCC hD2 hn hC2
        go_wp2_with fail
        exact ⟨fin, by simp [intOf]; omega⟩
      · by_cases hge : g1' ≤ g
        · have fin : LdR w0 w d ρ s f (.int .u32 g) v2 (.int .u32 ((k : Int) + 1)) w2 := by
            have e : part f (k + 1) = (g, b) := by rw [HP.out, hn]; show (if (part f k).1 ≤ g then _ else _) = _; rw [← HG.out, if_pos hge]
            exact ⟨k + 1, by omega, by push_cast; rfl, by rw [e], by rw [e]; exact q0, by rw [e]; exact q1, by rw [e]; exact hb.base (by have := H.out.2.size; omega), hCC, hD2⟩
          clear ho H HP HG hv2 hCC hD2 hn hC2 hb
          go_wp2_with fail
          exact ⟨fin, by simp [intOf]; omega⟩
        · have fin : LdR w0 w d ρ s f (.int .u32 g1') u3 (.int .u32 ((k : Int) + 1)) w2 := by
            have e : part f (k + 1) = part f k := by rw [HP.out, hn]; show (if (part f k).1 ≤ g then _ else _) = _; rw [← HG.out, if_neg hge]
            exact ⟨k + 1, by omega, by push_cast; rfl, by rw [e, HG.out], by rw [e, ← HG.out]; exact g0, by rw [e, ← HG.out]; exact g1, by rw [e]; exact hv2, hCC, hD2⟩
          clear ho H HP HG hv2 hCC hD2 hn hC2 hb
          go_wp2_with fail
          exact ⟨fin, by simp [intOf]; omega⟩
    · obtain rfl : k = 2 := by omega
      have fin : ∀ v, OwnB w.heap.size wr v (part f 2).2 → LoadPost w0 w d ρ s f (.returned (.tuple #[.int .u32 (part f 2).1, v, .int .i64 0])) wr := fun v hv => ⟨v, rfl, hC, hD, hv, g0, g1⟩
      have F := fin _ hv
      clear fin hv hC hD
      generalize (part f 2).1 = G at *
      go_wp2_with fail
      go_ret3
      exact F
end Go.Proofs.YtolojkfpokmdkaaRR.Slot

-- XSlotE
namespace Go.Proofs.YtolojkfpokmdkaaRR.Slot
open Go.RowKit Go.Proofs.YtolojkfpokmdkaaRR.Hp Go.Proofs.YtolojkfpokmdkaaRR.By Go.Proofs.YtolojkfpokmdkaaRR.Disk Go.Proofs.YtolojkfpokmdkaaRR.Word Go.Proofs.YtolojkfpokmdkaaRR.WordP Go.Proofs.YtolojkfpokmdkaaRR.Log
set_option linter.unusedVariables false
set_option linter.unusedSimpArgs false
theorem says_new : Says (DSt.new 192) (fun _ => List.replicate 64 0) := ⟨rfl, rfl, fun _ => rfl⟩
theorem says_wr {s : DSt} {f : Nat → List Int} (h : Says s f) (n : Nat) (hn : n < 192) (S : List Int) (hS : S.length = 64) : s.wrE (n : Int) 64 = 0 ∧ Says (s.wr (n : Int) S) (fun j => if j = n then S else f j) := by
  have h0 : (0 : Int) ≤ (n : Int) := by omega
  have h1 : (n : Int) < s.n := by rw [h.2.1]; omega
  refine ⟨calm_wrE h.1 h0 h1 rfl, ?_⟩
  rw [calm_wr h.1 h0 h1 hS, Int.toNat_natCast]
  refine ⟨h.1, h.2.1, fun j => ?_⟩
  show (s.put n S).get (j : Int) = if j = n then S else f j
  by_cases c : j = n
  · subst c
    rw [if_pos rfl]
    have : ((s.put j S).get ((j : Nat) : Int)) = S := by unfold DSt.get DSt.put; simp
    exact this
  · rw [if_neg c, get_put_ne n S (j : Int) (by omega)]
    exact h.2.2 j
theorem says_fl {s : DSt} {f : Nat → List Int} (h : Says s f) : s.flE = 0 ∧ Says s.fl f ∧ s.fl.looseL = [] := by
  have e : s.num.work = (s.num, 0) := work_calm _ h.1
  have e2 : s.fl = ({ s with num := s.num } : DSt).sureAll := by
    unfold DSt.fl; rw [e, if_pos rfl]
  refine ⟨by unfold DSt.flE; rw [e], ?_, ?_⟩
  · rw [e2]; exact ⟨h.1, h.2.1, fun j => by show ({ s with num := s.num } : DSt).sureAll.get (j : Int) = f j; rw [← h.2.2 j]; rfl⟩
  · rw [e2]; unfold DSt.looseL DSt.sureAll; simp
theorem says_wrN {s : DSt} {f : Nat → List Int} (h : Says s f) (a : Nat) (pg : Nat → List Int) (hp : ∀ k, (pg k).length = 64) : ∀ k, a + 1 + k ≤ 192 → (∀ j, j < k → (wrN s a pg j).wrE ((a : Int) + 1 + j) 64 = 0) ∧ Says (wrN s a pg k) (fun j => if a + 1 ≤ j ∧ j < a + 1 + k then pg (j - (a + 1)) else f j)
  | 0, _ => ⟨fun j hj => by omega, h.1, h.2.1, fun j => by
      show s.get (j : Int) = if a + 1 ≤ j ∧ j < a + 1 + 0 then pg (j - (a + 1)) else f j
      rw [if_neg (by omega)]; exact h.2.2 j⟩
  | k + 1, hk => by
    obtain ⟨h1, h2⟩ := says_wrN h a pg hp k (by omega)
    obtain ⟨h3, h4⟩ := says_wr h2 (a + 1 + k) (by omega) (pg k) (hp k)
    have e : ((a + 1 + k : Nat) : Int) = (a : Int) + 1 + k := by omega
    rw [e] at h3 h4
    refine ⟨fun j hj => ?_, h4.1, h4.2.1, fun j => ?_⟩
    · by_cases c : j < k
      · exact h1 j c
      · obtain rfl : j = k := by omega
        exact h3
    · refine (h4.2.2 j).trans ?_
      show (if j = a + 1 + k then pg k else if a + 1 ≤ j ∧ j < a + 1 + k then pg (j - (a + 1)) else f j) = if a + 1 ≤ j ∧ j < a + 1 + (k + 1) then pg (j - (a + 1)) else f j
      by_cases c : j = a + 1 + k
      · rw [if_pos c, if_pos (by omega), c]; congr 1; omega
      · rw [if_neg c]
        by_cases c2 : a + 1 ≤ j ∧ j < a + 1 + k
        · rw [if_pos c2, if_pos (by omega)]
        · rw [if_neg c2, if_neg (by omega)]
def aN (gen : Int) : Nat := (slotAt gen).toNat
theorem aN_eq (gen : Int) : slotAt gen = (aN gen : Int) := by unfold aN slotAt; omega
theorem aN_rng (gen : Int) : aN gen = 64 ∧ gen % 2 = 0 ∨ aN gen = 80 ∧ gen % 2 = 1 := by unfold aN slotAt; omega
/-- the sectors behind a Save -/
def savedF (f : Nat → List Int) (gen : Int) (l : List Int) (j : Nat) : List Int :=
  if j = aN gen then headL gen l else if aN gen + 1 ≤ j ∧ j < aN gen + 1 + pagesN l then page l (j - (aN gen + 1)) else f j
theorem pagesN_le {l : List Int} (h : l.length ≤ 960) : pagesN l ≤ 15 := by unfold pagesN; omega
theorem save_calm {s s' : DSt} {f : Nat → List Int} {gen E : Int} {l : List Int} (h : Says s f) (hl : l.length ≤ 960) (hS : Saves s gen l E s') : E = 0 ∧ Says s' (savedF f gen l) ∧ s'.looseL = [] := by
  have hp := pagesN_le hl
  have ha := aN_rng gen
  have hn : aN gen + 1 + pagesN l ≤ 192 := by omega
  obtain ⟨w1, w2⟩ := says_wrN h (aN gen) (page l) (page_len l) (pagesN l) hn
  rw [← aN_eq] at w1 w2
  obtain ⟨f1, f2, f3⟩ := says_fl w2
  rcases hS with ⟨k, hk, h1, h2, h3, _⟩ | ⟨_, hS⟩
  · exact absurd (by rw [← h2]; exact w1 k hk) h3
  · rcases hS with ⟨h1, h2, _⟩ | ⟨_, rfl, rfl⟩
    · exact absurd (by rw [← h1]; exact f1) h2
    · obtain ⟨a1, a2⟩ := says_wr f2 (aN gen) (by omega) (headL gen l) (headL_len gen l)
      rw [← aN_eq] at a1 a2
      obtain ⟨b1, b2, b3⟩ := says_fl a2
      have e1 : appE (wrN s (slotAt gen) (page l) (pagesN l)).fl (slotAt gen) (headL gen l) = 0 := by
        unfold appE; rw [headL_len, if_pos a1]; exact b1
      have e2 : appS (wrN s (slotAt gen) (page l) (pagesN l)).fl (slotAt gen) (headL gen l) = ((wrN s (slotAt gen) (page l) (pagesN l)).fl.wr (slotAt gen) (headL gen l)).fl := by
        unfold appS; rw [headL_len, if_pos a1]
      refine ⟨e1, ?_, by rw [e2]; exact b3⟩
      rw [e2]
      exact ⟨b2.1, b2.2.1, fun j => by rw [b2.2.2 j]; rfl⟩
theorem cat_get {F : Nat → List Int} {b k : Nat} (h : ∀ j, j < k → (F (b + j)).length = 64) (i : Nat) (hi : i < 64 * k) : (cat F b k)[i]? = (F (b + i / 64))[i % 64]? := by
  induction k with
  | zero => omega
  | succ k ih =>
    show (cat F b k ++ F (b + k))[i]? = _
    have hl := cat_len (f := F) (a := b) (k := k) (fun j hj => h j (by omega))
    by_cases c : i < 64 * k
    · rw [List.getElem?_append_left (by omega)]; exact ih (fun j hj => h j (by omega)) c
    · rw [List.getElem?_append_right (by omega), hl]
      have e : i / 64 = k := by omega
      rw [e]; congr 1; omega
theorem page_get (l : List Int) (k j : Nat) (hj : j < 64) (h : 64 * k + j < l.length) : (page l k)[j]? = l[64 * k + j]? := by
  unfold page
  rw [spl_get _ _ 0 j (by rw [List.length_take, List.length_replicate]; omega), if_pos ⟨by omega, by rw [List.length_take, List.length_drop]; omega⟩, List.getElem?_take, if_pos (by omega), List.getElem?_drop]
  congr 1
theorem head_at (gen : Int) (b : List Int) (j : Nat) (hj : j < 8) : (headL gen b)[j]? = if 4 ≤ j then (digs b.length 4)[j - 4]? else (digs gen 4)[j]? := by
  have d4 : ∀ v, (digs v 4).length = 4 := fun v => digs_length v 4
  have e1 : (spl (List.replicate 64 0) 0 (digs gen 4)).length = 64 := by rw [spl_length _ _ _ (by rw [d4]; simp)]; simp
  unfold headL
  rw [spl_get _ _ 8 j (by rw [d4, headH_len]; omega), if_neg (by omega)]
  unfold headH
  rw [spl_get _ _ 4 j (by rw [d4, e1]; omega), d4]
  by_cases c : 4 ≤ j
  · rw [if_pos (by omega), if_pos c]
  · rw [if_neg (by omega), if_neg c, spl_get _ _ 0 j (by rw [d4]; simp), d4, if_pos (by omega)]; congr 1
theorem head_gen (gen : Int) (b : List Int) : ((headL gen b).drop 0).take 4 = digs gen 4 :=
  take_eq _ _ 0 4 (digs_length _ _) (fun j hj => by rw [head_at gen b _ (by omega), if_neg (by omega)]; congr 1; omega)
theorem head_num (gen : Int) (b : List Int) : ((headL gen b).drop 4).take 4 = digs b.length 4 :=
  take_eq _ _ 4 4 (digs_length _ _) (fun j hj => by rw [head_at gen b _ (by omega), if_pos (by omega)]; congr 1; omega)
theorem one_congr {f f' : Nat → List Int} {w : Nat} (h : ∀ j, 64 + 16 * w ≤ j → j < 64 + 16 * w + 16 → f j = f' j) : oneOf f w = oneOf f' w := by
  have hc : ∀ k, k ≤ 15 → cat f (64 + 16 * w + 1) k = cat f' (64 + 16 * w + 1) k := by
    intro k hk
    induction k with
    | zero => rfl
    | succ k ih =>
      show cat f _ k ++ f _ = cat f' _ k ++ f' _
      rw [ih (by omega), h _ (by omega) (by omega)]
  unfold oneOf
  rw [h (64 + 16 * w) (by omega) (by omega)]
  by_cases c : 960 < leN (((f' (64 + 16 * w)).drop 4).take 4)
  · rw [if_pos c, if_pos c]
  · rw [if_neg c, if_neg c, hc _ (by omega)]
theorem one_saved (f : Nat → List Int) (gen : Int) (l : List Int) (g0 : 0 ≤ gen) (g1 : gen < 4294967296) (hl : l.length ≤ 960) (w : Nat) (hw : (w : Int) = gen % 2) : oneOf (savedF f gen l) w = some (gen, l) := by
  have ea : 64 + 16 * w = aN gen := by rcases aN_rng gen with ⟨a, b⟩ | ⟨a, b⟩ <;> omega
  have e4 : (256 : Int) ^ 4 = 4294967296 := by decide
  have eH : savedF f gen l (aN gen) = headL gen l := by unfold savedF; rw [if_pos rfl]
  have eg : leN (((headL gen l).drop 0).take 4) = gen := by rw [head_gen, leN_digs _ _ g0, e4]; omega
  have en : leN (((headL gen l).drop 4).take 4) = (l.length : Int) := by rw [head_num, leN_digs _ _ (by omega), e4]; omega
  have ec : (cat (savedF f gen l) (aN gen + 1) ((l.length + 63) / 64)).take l.length = l := by
    have hF : ∀ j, j < (l.length + 63) / 64 → savedF f gen l (aN gen + 1 + j) = page l j := fun j hj => by
      unfold savedF
      rw [if_neg (by omega), if_pos ⟨by omega, by unfold pagesN; omega⟩]
      congr 1; omega
    apply List.ext_getElem?
    intro i
    rw [List.getElem?_take]
    by_cases c : i < l.length
    · rw [if_pos c, cat_get (fun j hj => by rw [hF j hj]; exact page_len l j) i (by omega), hF _ (by omega), page_get l _ _ (by omega) (by omega)]
      congr 1; omega
    · rw [if_neg c, List.getElem?_eq_none (by omega)]
  unfold oneOf
  rw [ea, eH, eg, en, if_neg (by omega), Int.toNat_natCast, ec, if_pos ⟨hw.symm, rfl⟩]
theorem one_other (f : Nat → List Int) (gen : Int) (l : List Int) (hl : l.length ≤ 960) (w : Nat) (h2 : w < 2) (hw : (w : Int) ≠ gen % 2) : oneOf (savedF f gen l) w = oneOf f w := by
  refine one_congr fun j h1 h2 => ?_
  have hp := pagesN_le hl
  unfold savedF
  rcases aN_rng gen with ⟨a, b⟩ | ⟨a, b⟩
  · rw [if_neg (by omega), if_neg (by omega)]
  · rw [if_neg (by omega), if_neg (by omega)]
theorem one_zero (w : Nat) (h : w < 2) : oneOf (fun _ => List.replicate 64 0) w = none := by
  have h0 : oneOf (fun _ => List.replicate 64 0) 0 = none := by decide +kernel
  have h1 : oneOf (fun _ => List.replicate 64 0) 1 = none := by decide +kernel
  match w, h with
  | 0, _ => exact h0
  | 1, _ => exact h1
theorem load_zero : loadOf (fun _ => List.replicate 64 0) = (0, []) := by
  unfold loadOf; rw [one_zero 0 (by omega), one_zero 1 (by omega)]; rfl
/-- the later of two that are whole -/
theorem load_two {f : Nat → List Int} {g : Int} {b : List Int} (w : Nat) (h2 : w < 2) (g0 : 0 ≤ g) (h1 : oneOf f w = some (g, b)) (h3 : ∀ q, oneOf f (1 - w) = some q → q.1 < g) : loadOf f = (g, b) := by
  unfold loadOf
  match w, h2 with
  | 0, _ =>
    rw [h1]
    have e : pick1 (0, []) (some (g, b)) = (g, b) := by unfold pick1; exact if_pos g0
    rw [e]
    cases ho : oneOf f 1 with
    | none => rfl
    | some q => exact if_neg (by have := h3 q ho; show ¬ g ≤ q.1; omega)
  | 1, _ =>
    rw [h1]
    cases ho : oneOf f 0 with
    | none => exact if_pos g0
    | some q =>
      have hq := h3 q ho
      show (if (pick1 (0, []) (some q)).1 ≤ g then (g, b) else _) = (g, b)
      refine if_pos ?_
      unfold pick1
      by_cases c : (0 : Int) ≤ q.1
      · show (if (0 : Int) ≤ q.1 then q else _).1 ≤ g
        rw [if_pos c]; omega
      · show (if (0 : Int) ≤ q.1 then q else _).1 ≤ g
        rw [if_neg c]; exact g0
end Go.Proofs.YtolojkfpokmdkaaRR.Slot

-- XSlotF
namespace Go.Proofs.YtolojkfpokmdkaaRR.Slot
open Go.RowKit Go.Proofs.YtolojkfpokmdkaaRR.Hp Go.Proofs.YtolojkfpokmdkaaRR.By Go.Proofs.YtolojkfpokmdkaaRR.Disk Go.Proofs.YtolojkfpokmdkaaRR.Word Go.Proofs.YtolojkfpokmdkaaRR.WordP Go.Proofs.YtolojkfpokmdkaaRR.Log
set_option linter.unusedVariables false
set_option linter.unusedSimpArgs false
/-- a Save on a disk where nothing fails -/
theorem save_says {w0 w : World} {d : Nat} {ρ0 : Nat → Nat} {s : DSt} {f : Nat → List Int} (gen : Int) (A : Option Addr) (c : Nat) (l : List Int) (h : DL w0 w d ρ0 s) (hs : Says s f) (g0 : 0 ≤ gen) (g1 : gen < 4294967296) (hl : l.length ≤ 960) (hr : Rd w .u8 A l) (hlt : 0 < l.length → Off A (Own ρ0)) (hcap : l.length ≤ c) (hb : Bytes l) :
    Calls Try.prog 50 #[.pointer (some ⟨d, 0, none⟩), .int .u32 gen, .slice A l.length c] w fun e w' => e = .returned (.int .i64 0) ∧ ∃ s', Says s' (savedF f gen l) ∧ s'.looseL = [] ∧ Stp w0 w d ρ0 w' s' := by
  refine (save_any gen A c l h g0 g1 hl hr hlt hcap hb).mono ?_
  rintro e w' ⟨E, s', rfl, hS, hst⟩
  obtain ⟨rfl, h2, h3⟩ := save_calm hs hl hS
  exact ⟨rfl, s', h2, h3, hst⟩
end Go.Proofs.YtolojkfpokmdkaaRR.Slot

-- XSlotN
namespace Go.Proofs.YtolojkfpokmdkaaRR.Slot
open Go.RowKit Go.Proofs.YtolojkfpokmdkaaRR.Hp Go.Proofs.YtolojkfpokmdkaaRR.By Go.Proofs.YtolojkfpokmdkaaRR.Disk Go.Proofs.YtolojkfpokmdkaaRR.Word Go.Proofs.YtolojkfpokmdkaaRR.WordP Go.Proofs.YtolojkfpokmdkaaRR.Log
set_option linter.unusedVariables false
set_option linter.unusedSimpArgs false
/-- sectors that are sure; none is loose -/
def Firm (s : DSt) (f : Nat → List Int) : Prop := s.n = 192 ∧ (∀ j, s.sure j = f j) ∧ ∀ j, s.loose j = none
/-- sectors that are sure; one may be loose -/
def Half (s : DSt) (f : Nat → List Int) (n : Nat) (S : List Int) : Prop := s.n = 192 ∧ (∀ j, s.sure j = f j) ∧ ((∀ j, s.loose j = none) ∨ ∀ j, s.loose j = if j = n then some S else none)
theorem app_firm {s : DSt} {f : Nat → List Int} (h : Firm s f) (n : Nat) (hn : n < 192) (S : List Int) (hS : S.length = 64) :
    (appE s n S = 0 → Firm (appS s n S) (fun j => if j = n then S else f j)) ∧ (appE s n S ≠ 0 → Half (appS s n S) f n S) := by
  obtain ⟨a, b, c⟩ := h
  have hin : (0 : Int) ≤ (n : Int) ∧ (n : Int) < s.n := by omega
  have e1 : s.wrE n S.length = s.num.work.2 := by unfold DSt.wrE; rw [if_pos hS]; exact ioE_in hin.1 hin.2
  have e2 : s.io n = { s with num := s.num.work.1 } := io_in hin.1 hin.2
  have e3 : s.wr n S = if s.num.work.2 = 0 then ({ s with num := s.num.work.1 } : DSt).put n S else { s with num := s.num.work.1 } := by
    unfold DSt.wr; rw [if_pos hS, ioE_in hin.1 hin.2, e2, Int.toNat_natCast]
  unfold appE appS
  rw [e1, e3]
  by_cases c1 : s.num.work.2 = 0
  · rw [if_pos c1, if_pos c1, if_pos c1]
    unfold DSt.flE DSt.fl
    by_cases c2 : (({ s with num := s.num.work.1 } : DSt).put n S).num.work.2 = 0
    · rw [if_pos c2]
      refine ⟨fun _ => ⟨a, fun j => ?_, fun _ => rfl⟩, fun x => absurd c2 x⟩
      show (if j = n then some S else s.loose j).getD (s.sure j) = if j = n then S else f j
      by_cases cj : j = n
      · rw [if_pos cj, if_pos cj]; rfl
      · rw [if_neg cj, if_neg cj, c j]; exact b j
    · rw [if_neg c2]
      refine ⟨fun x => absurd x c2, fun _ => ⟨a, b, .inr fun j => ?_⟩⟩
      show (if j = n then some S else s.loose j) = _
      rw [c j]
  · rw [if_neg c1, if_neg c1, if_neg c1]
    exact ⟨fun x => absurd x c1, fun _ => ⟨a, b, .inl c⟩⟩
theorem Firm.half {s : DSt} {f : Nat → List Int} (h : Firm s f) (n : Nat) (S : List Int) : Half s f n S := ⟨h.1, h.2.1, .inl h.2.2⟩
theorem looseL_one {s : DSt} {n : Nat} (hn : n < s.n) {S : List Int} (h : ∀ j, s.loose j = if j = n then some S else none) : s.looseL = [(n : Int)] := by
  have hp : s.looseL.Perm [(n : Int)] := (List.perm_ext_iff_of_nodup (looseL_sorted s).2 (by simp)).mpr (fun k => by
    rw [looseL_mem, List.mem_singleton, h]
    constructor
    · rintro ⟨h0, h1, h2⟩
      by_cases c : k.toNat = n
      · omega
      · rw [if_neg c] at h2; cases h2
    · rintro rfl
      exact ⟨by omega, by simpa using hn, by simp⟩)
  exact List.perm_singleton.mp hp
theorem looseL_no {s : DSt} (h : ∀ j, s.loose j = none) : s.looseL = [] := by
  unfold DSt.looseL
  simp [h]
theorem crash_half {s : DSt} {f : Nat → List Int} {n : Nat} {S : List Int} (h : Half s f n S) (hn : n < 192) (hS : S.length = 64) (hf : (f n).length = 64) (keep torn : Int) :
    ∃ T, Says (s.crash keep torn) (fun j => if j = n then T else f j) ∧ (T = f n ∨ T = S ∨ (0 < torn ∧ torn < 64)) := by
  obtain ⟨a, b, c⟩ := h
  have same : (∀ j : Nat, (s.crash keep torn).get (j : Int) = f j) → ∃ T, Says (s.crash keep torn) (fun j => if j = n then T else f j) ∧ (T = f n ∨ T = S ∨ (0 < torn ∧ torn < 64)) := fun hs =>
    ⟨f n, ⟨rfl, a, fun j => by
      show _ = if j = n then f n else f j
      by_cases cj : j = n
      · rw [if_pos cj, hs j, cj]
      · rw [if_neg cj]; exact hs j⟩, .inl rfl⟩
  rcases c with c | c
  · refine same fun j => ?_
    show (if (crashAt keep s.looseL s.looseL.length).1 j then _ else if (crashAt keep s.looseL s.looseL.length).2 = some j then _ else s.sure j) = f j
    rw [looseL_no c]
    exact b j
  · have hl := looseL_one (by omega) c
    by_cases ck : keptAt keep 0 = true
    · refine ⟨S.take (cut64 torn) ++ (f n).drop (cut64 torn), ⟨rfl, a, fun j => ?_⟩, ?_⟩
      · show (if (crashAt keep s.looseL s.looseL.length).1 j then _ else if (crashAt keep s.looseL s.looseL.length).2 = some j then _ else s.sure j) = _
        rw [hl]
        have e : crashAt keep [(n : Int)] [(n : Int)].length = (fun _ => false, some n) := by
          show (if keptAt keep 0 then _ else _) = _
          rw [if_pos ck]; simp [crashAt]
        rw [e]
        by_cases cj : j = n
        · subst cj
          simp [c, b]
        · have : ¬ n = j := fun x => cj x.symm
          simp [cj, this, b]
      · by_cases t0 : 0 < torn
        · by_cases t1 : torn < 64
          · exact .inr (.inr ⟨t0, t1⟩)
          · have e : cut64 torn = 64 := by unfold cut64; omega
            rw [e, List.take_of_length_le (by omega), List.drop_of_length_le (by omega), List.append_nil]
            exact .inr (.inl rfl)
        · have e : cut64 torn = 0 := by unfold cut64; omega
          rw [e, List.take_zero, List.drop_zero, List.nil_append]
          exact .inl rfl
    · refine same fun j => ?_
      show (if (crashAt keep s.looseL s.looseL.length).1 j then _ else if (crashAt keep s.looseL s.looseL.length).2 = some j then _ else s.sure j) = f j
      rw [hl]
      have e : crashAt keep [(n : Int)] [(n : Int)].length = (fun _ => false, none) := by
        show (if keptAt keep 0 then _ else _) = _
        rw [if_neg ck]; simp [crashAt]
      rw [e]
      simp [b]
/-- what is not loose stays as it is sure -/
theorem crash_keep (s : DSt) (keep torn : Int) (j : Nat) (h : s.loose j = none) : (s.crash keep torn).get (j : Int) = s.sure j := by
  obtain ⟨h1, h2⟩ := crashAt_ca keep s s.looseL.length (Nat.le_refl _)
  show (if (crashAt keep s.looseL s.looseL.length).1 j then _ else if (crashAt keep s.looseL s.looseL.length).2 = some j then _ else s.sure j) = s.sure j
  by_cases c1 : (crashAt keep s.looseL s.looseL.length).1 j = true
  · have := (h1 j c1).1
    rw [h] at this; cases this
  · rw [if_neg c1]
    by_cases c2 : (crashAt keep s.looseL s.looseL.length).2 = some j
    · have := (h2 j c2).1
      rw [h] at this; cases this
    · rw [if_neg c2]
/-- pages that were written, none of them sure -/
def Pages (s : DSt) (f : Nat → List Int) (a : Nat) (pg : Nat → List Int) (k : Nat) : Prop := s.n = 192 ∧ (∀ j, s.sure j = f j) ∧ ∀ j, s.loose j = if a + 1 ≤ j ∧ j < a + 1 + k then some (pg (j - (a + 1))) else none
theorem pages_wrN {s : DSt} {f : Nat → List Int} (h : Firm s f) (a : Nat) (pg : Nat → List Int) (hp : ∀ k, (pg k).length = 64) : ∀ k, a + 1 + k ≤ 192 → (∀ j, j < k → (wrN s a pg j).wrE ((a : Int) + 1 + j) 64 = 0) → Pages (wrN s a pg k) f a pg k
  | 0, _, _ => ⟨h.1, h.2.1, fun j => by rw [if_neg (by omega)]; exact h.2.2 j⟩
  | k + 1, hk, h1 => by
    obtain ⟨p1, p2, p3⟩ := pages_wrN h a pg hp k (by omega) (fun j hj => h1 j (by omega))
    have e0 := h1 k (by omega)
    have hin : (0 : Int) ≤ (a : Int) + 1 + k ∧ (a : Int) + 1 + k < (wrN s a pg k).n := by rw [p1]; omega
    have e1 : (wrN s a pg k).ioE ((a : Int) + 1 + k) = 0 := by
      have := e0; unfold DSt.wrE at this; rwa [if_pos rfl] at this
    have e2 : wrN s a pg (k + 1) = ({ wrN s a pg k with num := (wrN s a pg k).num.work.1 } : DSt).put (a + 1 + k) (pg k) := by
      show (wrN s a pg k).wr ((a : Int) + 1 + k) (pg k) = _
      unfold DSt.wr
      rw [if_pos (hp k), if_pos e1, io_in hin.1 hin.2]
      congr 1
    rw [e2]
    refine ⟨p1, p2, fun j => ?_⟩
    show (if j = a + 1 + k then some (pg k) else (wrN s a pg k).loose j) = _
    by_cases c : j = a + 1 + k
    · rw [if_pos c, if_pos (by omega), c]; congr 2; omega
    · rw [if_neg c, p3 j]
      by_cases c2 : a + 1 ≤ j ∧ j < a + 1 + k
      · rw [if_pos c2, if_pos (by omega)]
      · rw [if_neg c2, if_neg (by omega)]
/-- behind a crash, outside the pages, all is as it was -/
theorem pages_crash {s s' : DSt} {f : Nat → List Int} {a : Nat} {pg : Nat → List Int} {k : Nat} (h : Pages s f a pg k) (hk : k ≤ 15) (hs : s'.n = s.n) (h1 : ∀ j, s'.sure j = s.sure j) (h2 : ∀ j, s'.loose j = s.loose j) (keep torn : Int) :
    Says (s'.crash keep torn) (fun j => (s'.crash keep torn).get (j : Int)) ∧ ∀ j, ¬ (a < j ∧ j ≤ a + 15) → (s'.crash keep torn).get (j : Int) = f j := by
  refine ⟨⟨rfl, hs.trans h.1, fun j => rfl⟩, fun j hj => ?_⟩
  rw [crash_keep s' keep torn j (by rw [h2, h.2.2, if_neg (by omega)]), h1, h.2.1]
def LenF (f : Nat → List Int) : Prop := ∀ j, (f j).length = 64
theorem lenF_saved {f : Nat → List Int} (h : LenF f) (gen : Int) (l : List Int) : LenF (savedF f gen l) := fun j => by
  unfold savedF
  split
  · exact headL_len _ _
  · split
    · exact page_len _ _
    · exact h j
def CutTo (f : Nat → List Int) (gen : Int) (l : List Int) (torn : Int) (f' : Nat → List Int) : Prop :=
  (∀ j, ¬ (aN gen < j ∧ j ≤ aN gen + 15) → f' j = f j) ∨ (∀ j, f' j = savedF f gen l j) ∨ ((0 < torn ∧ torn < 64) ∧ ∀ j, ¬ (aN gen ≤ j ∧ j ≤ aN gen + 15) → f' j = f j)
theorem saves_firm {s s' : DSt} {f : Nat → List Int} {gen E : Int} {l : List Int} (h : Firm s f) (hf : LenF f) (hl : l.length ≤ 960) (hS : Saves s gen l E s') :
    (E = 0 → Firm s' (savedF f gen l)) ∧ (E ≠ 0 → ∀ keep torn, ∃ f', Says (s'.crash keep torn) f' ∧ CutTo f gen l torn f') := by
  have hp := pagesN_le hl
  have ha := aN_rng gen
  have pw : ∀ k, k ≤ pagesN l → (∀ j, j < k → (wrN s (slotAt gen) (page l) j).wrE (slotAt gen + 1 + j) 64 = 0) → Pages (wrN s (slotAt gen) (page l) k) f (aN gen) (page l) k := fun k hk h1 => by
    have := pages_wrN h (aN gen) (page l) (page_len l) k (by omega)
    rw [← aN_eq] at this
    exact this h1
  rcases hS with ⟨k, hk, h1, h2, h3, rfl⟩ | ⟨h1, hS⟩
  · refine ⟨fun x => absurd x h3, fun _ keep torn => ?_⟩
    have pk := pw k (by omega) h1
    have hin : (0 : Int) ≤ slotAt gen + 1 + k ∧ slotAt gen + 1 + k < (wrN s (slotAt gen) (page l) k).n := by rw [pk.1, aN_eq]; omega
    have e2 : wrN s (slotAt gen) (page l) (k + 1) = { wrN s (slotAt gen) (page l) k with num := (wrN s (slotAt gen) (page l) k).num.work.1 } := by
      show (wrN s (slotAt gen) (page l) k).wr (slotAt gen + 1 + k) (page l k) = _
      have e1 : ¬ (wrN s (slotAt gen) (page l) k).ioE (slotAt gen + 1 + k) = 0 := fun x => h3 (by rw [← h2]; unfold DSt.wrE; rw [if_pos rfl]; exact x)
      unfold DSt.wr
      rw [if_pos (page_len l k), if_neg e1, io_in hin.1 hin.2]
    obtain ⟨c1, c2⟩ := pages_crash (s' := wrN s (slotAt gen) (page l) (k + 1)) pk (by omega) (by rw [e2]) (fun j => by rw [e2]) (fun j => by rw [e2]) keep torn
    exact ⟨_, c1, .inl c2⟩
  · have pk := pw (pagesN l) (Nat.le_refl _) h1
    generalize wrN s (slotAt gen) (page l) (pagesN l) = s1 at *
    rcases hS with ⟨h2, h3, rfl⟩ | ⟨h2, rfl, rfl⟩
    · refine ⟨fun x => absurd x h3, fun _ keep torn => ?_⟩
      have e2 : s1.fl = { s1 with num := s1.num.work.1 } := by
        unfold DSt.fl; rw [if_neg (fun x => h3 (by rw [← h2]; exact x))]
      obtain ⟨c1, c2⟩ := pages_crash (s' := s1.fl) pk (by omega) (by rw [e2]) (fun j => by rw [e2]) (fun j => by rw [e2]) keep torn
      exact ⟨_, c1, .inl c2⟩
    · have e2 : s1.fl = ({ s1 with num := s1.num.work.1 } : DSt).sureAll := by
        unfold DSt.fl; rw [if_pos (show s1.num.work.2 = 0 from h2)]
      have hfp : Firm s1.fl (fun j => if aN gen + 1 ≤ j ∧ j < aN gen + 1 + pagesN l then page l (j - (aN gen + 1)) else f j) := by
        rw [e2]
        refine ⟨pk.1, fun j => ?_, fun j => rfl⟩
        show (s1.loose j).getD (s1.sure j) = _
        rw [pk.2.2 j, pk.2.1 j]
        by_cases c : aN gen + 1 ≤ j ∧ j < aN gen + 1 + pagesN l
        · rw [if_pos c]; exact (if_pos c).symm
        · rw [if_neg c]; exact (if_neg c).symm
      have af := app_firm hfp (aN gen) (by omega) (headL gen l) (headL_len gen l)
      rw [← aN_eq] at af
      refine ⟨fun x => ?_, fun x keep torn => ?_⟩
      · exact af.1 x
      · obtain ⟨T, hs, ht⟩ := crash_half (af.2 x) (by omega) (headL_len gen l) (by rw [if_neg (by omega)]; exact hf _) keep torn
        refine ⟨_, hs, ?_⟩
        rcases ht with rfl | rfl | ht
        · refine .inl fun j hj => ?_
          show (if j = aN gen then _ else if aN gen + 1 ≤ j ∧ j < aN gen + 1 + pagesN l then _ else f j) = f j
          by_cases c : j = aN gen
          · rw [if_pos c, if_neg (by omega), c]
          · rw [if_neg c, if_neg (by omega)]
        · exact .inr (.inl fun j => rfl)
        · refine .inr (.inr ⟨ht, fun j hj => ?_⟩)
          show (if j = aN gen then _ else if aN gen + 1 ≤ j ∧ j < aN gen + 1 + pagesN l then _ else f j) = f j
          rw [if_neg (by omega), if_neg (by omega)]
/-- what the two slots hold: the last one that was saved, and the one before -/
def Inv (f : Nat → List Int) (gen : Int) (now : List Int) : Prop :=
  LenF f ∧ 0 ≤ gen ∧ (gen = 0 → now = [] ∧ ∀ j, f j = List.replicate 64 0) ∧ (0 < gen → ∀ w : Nat, w < 2 → (w : Int) = gen % 2 → oneOf f w = some (gen, now) ∧ (f (64 + 16 * (1 - w)) = List.replicate 64 0 ∨ ∃ b, f (64 + 16 * (1 - w)) = headL (gen - 1) b))
theorem inv_new : Inv (fun _ => List.replicate 64 0) 0 [] := ⟨fun _ => by simp, Int.le_refl _, fun _ => ⟨rfl, fun _ => rfl⟩, fun h => by omega⟩
theorem one_head {f : Nat → List Int} {w : Nat} {q : Int × List Int} (h : oneOf f w = some q) : f (64 + 16 * w) = headL q.1 q.2 := by
  unfold oneOf at h
  split at h
  · cases h
  · split at h
    · rename_i c
      obtain rfl := Option.some.inj h
      exact c.2.symm
    · cases h
theorem one_gen {f : Nat → List Int} {w : Nat} {g : Int} {b : List Int} {q : Int × List Int} (g0 : 0 ≤ g) (g1 : g < 4294967296) (hf : f (64 + 16 * w) = headL g b) (h : oneOf f w = some q) : q.1 = g := by
  have e4 : (256 : Int) ^ 4 = 4294967296 := by decide
  have eg : leN (((headL g b).drop 0).take 4) = g := by rw [head_gen, leN_digs _ _ g0, e4]; omega
  unfold oneOf at h
  rw [hf] at h
  split at h
  · cases h
  · split at h
    · obtain rfl := Option.some.inj h
      exact eg
    · cases h
theorem one_zeros {f : Nat → List Int} {w : Nat} (hw : w < 2) (hf : f (64 + 16 * w) = List.replicate 64 0) : oneOf f w = none := by
  have e0 : leN (((List.replicate 64 (0 : Int)).drop 4).take 4) = 0 := by decide
  have z := one_zero w hw
  unfold oneOf at z ⊢
  rw [hf]
  rw [e0] at z ⊢
  exact z
theorem inv_next {f : Nat → List Int} {gen : Int} {now l : List Int} (h : Inv f gen now) (g1 : gen + 1 < 4294967296) (hl : l.length ≤ 960) : Inv (savedF f (gen + 1) l) (gen + 1) l := by
  obtain ⟨h1, h2, h3, h4⟩ := h
  refine ⟨lenF_saved h1 _ _, by omega, fun x => by omega, fun _ w hw2 hw => ⟨one_saved f (gen + 1) l (by omega) g1 hl w hw, ?_⟩⟩
  have hp := pagesN_le hl
  have e : savedF f (gen + 1) l (64 + 16 * (1 - w)) = f (64 + 16 * (1 - w)) := by
    unfold savedF
    rcases aN_rng (gen + 1) with ⟨a, b⟩ | ⟨a, b⟩
    · rw [if_neg (by omega), if_neg (by omega)]
    · rw [if_neg (by omega), if_neg (by omega)]
  rw [e]
  by_cases c : gen = 0
  · exact .inl ((h3 c).2 _)
  · obtain ⟨o1, _⟩ := h4 (by omega) (1 - w) (by omega) (by omega)
    refine .inr ⟨now, ?_⟩
    have := one_head o1
    rw [this]
    show headL gen now = headL (gen + 1 - 1) now
    congr 1; omega
theorem inv_load {f : Nat → List Int} {gen : Int} {now : List Int} (h : Inv f gen now) (g1 : gen < 4294967296) : loadOf f = (gen, now) := by
  obtain ⟨h1, h2, h3, h4⟩ := h
  by_cases c : gen = 0
  · obtain ⟨rfl, hz⟩ := h3 c
    subst c
    have : f = fun _ => List.replicate 64 0 := funext hz
    rw [this]; exact load_zero
  · obtain ⟨w, hw2, hw⟩ : ∃ w : Nat, w < 2 ∧ (w : Int) = gen % 2 := ⟨(gen % 2).toNat, by omega, by omega⟩
    obtain ⟨o1, o2⟩ := h4 (by omega) w hw2 hw
    refine load_two w hw2 h2 o1 fun q hq => ?_
    rcases o2 with o2 | ⟨b, o2⟩
    · rw [one_zeros (by omega) o2] at hq; cases hq
    · have := one_gen (by omega) (by omega) o2 hq
      omega
/-- behind a cut there is what was there, or what was being saved -/
theorem inv_cut {f f' : Nat → List Int} {gen torn : Int} {now l : List Int} (h : Inv f gen now) (g1 : gen + 1 < 4294967296) (hl : l.length ≤ 960) (hc : CutTo f (gen + 1) l torn f') : loadOf f' = (gen, now) ∨ loadOf f' = (gen + 1, l) ∨ (0 < torn ∧ torn < 64) := by
  rcases hc with hc | hc | hc
  · left
    obtain ⟨h1, h2, h3, h4⟩ := h
    obtain ⟨w, hw2, hw⟩ : ∃ w : Nat, w < 2 ∧ (w : Int) = gen % 2 := ⟨(gen % 2).toNat, by omega, by omega⟩
    have out : ∀ j, 64 + 16 * w ≤ j → j < 64 + 16 * w + 16 → f' j = f j := fun j j1 j2 => hc j (by rcases aN_rng (gen + 1) with ⟨a, b⟩ | ⟨a, b⟩ <;> omega)
    have hd : f' (64 + 16 * (1 - w)) = f (64 + 16 * (1 - w)) := hc _ (by rcases aN_rng (gen + 1) with ⟨a, b⟩ | ⟨a, b⟩ <;> omega)
    have e1 := one_congr out
    by_cases c : gen = 0
    · obtain ⟨rfl, hz⟩ := h3 c
      subst c
      have ha : oneOf f' w = none := by rw [e1]; exact one_zeros hw2 (hz _)
      have hb : oneOf f' (1 - w) = none := one_zeros (by omega) (by rw [hd]; exact hz _)
      have hw0 : w = 0 := by omega
      subst hw0
      unfold loadOf
      rw [ha, show oneOf f' 1 = none from hb]; rfl
    · obtain ⟨o1, o2⟩ := h4 (by omega) w hw2 hw
      refine load_two w hw2 h2 (by rw [e1]; exact o1) fun q hq => ?_
      rcases o2 with o2 | ⟨b, o2⟩
      · rw [one_zeros (by omega) (by rw [hd]; exact o2)] at hq; cases hq
      · have := one_gen (g := gen - 1) (b := b) (by omega) (by omega) (by rw [hd]; exact o2) hq
        omega
  · right; left
    have e : f' = savedF f (gen + 1) l := funext hc
    rw [e]
    exact inv_load (inv_next h g1 hl) g1
  · exact .inr (.inr hc.1)
theorem crash_firm {s : DSt} {f : Nat → List Int} (h : Firm s f) (keep torn : Int) : Says (s.crash keep torn) f := ⟨rfl, h.1, fun j => by rw [crash_keep s keep torn j (h.2.2 j)]; exact h.2.1 j⟩
theorem firm_new (a b c : Int) : Firm (((DSt.new 192).failing a b).fusing c) (fun _ => List.replicate 64 0) := ⟨rfl, fun _ => rfl, fun _ => rfl⟩
end Go.Proofs.YtolojkfpokmdkaaRR.Slot

