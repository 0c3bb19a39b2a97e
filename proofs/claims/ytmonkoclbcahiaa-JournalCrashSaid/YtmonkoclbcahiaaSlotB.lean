/- A slot: Save. -/
import Derived.Test.YtmonkoclbcahiaaSlot
import Derived.Test.YtmonkoclbcahiaaLogC
namespace Go.Proofs.Ytmonkoclbcahiaa.Slot
open Go.RowKit Go.Proofs.Ytmonkoclbcahiaa.Hp Go.Proofs.Ytmonkoclbcahiaa.By Go.Proofs.Ytmonkoclbcahiaa.Disk Go.Proofs.Ytmonkoclbcahiaa.Word Go.Proofs.Ytmonkoclbcahiaa.WordP Go.Proofs.Ytmonkoclbcahiaa.Log
set_option linter.unusedVariables false
set_option linter.unusedSimpArgs false
/-- a sector's worth of bytes, zeros behind -/
def page (l : List Int) (k : Nat) : List Int := spl (List.replicate 64 0) 0 ((l.drop (64 * k)).take 64)
theorem page_len (l : List Int) (k : Nat) : (page l k).length = 64 := by
  unfold page
  rw [spl_length _ _ _ (by rw [List.length_take, List.length_replicate]; omega)]; simp
theorem page_bytes {l : List Int} (h : Bytes l) (k : Nat) : Bytes (page l k) := bytes_spl (bytes_zero 64) (fun x hx => h x (List.mem_of_mem_drop (List.mem_of_mem_take hx))) 0
def pagesN (l : List Int) : Nat := (l.length + 63) / 64
/-- pages are written, one behind the other -/
def wrN (s : DSt) (a : Int) (pg : Nat → List Int) : Nat → DSt
  | 0 => s
  | k + 1 => (wrN s a pg k).wr (a + 1 + k) (pg k)
def slotAt (gen : Int) : Int := 64 + gen % 2 * 16
/-- what Save answers, and leaves -/
def Saves (s : DSt) (gen : Int) (l : List Int) (E : Int) (s' : DSt) : Prop :=
  (∃ k, k < pagesN l ∧ (∀ j, j < k → (wrN s (slotAt gen) (page l) j).wrE (slotAt gen + 1 + j) 64 = 0) ∧ (wrN s (slotAt gen) (page l) k).wrE (slotAt gen + 1 + k) 64 = E ∧ E ≠ 0 ∧ s' = wrN s (slotAt gen) (page l) (k + 1)) ∨
  ((∀ j, j < pagesN l → (wrN s (slotAt gen) (page l) j).wrE (slotAt gen + 1 + j) 64 = 0) ∧
    (((wrN s (slotAt gen) (page l) (pagesN l)).flE = E ∧ E ≠ 0 ∧ s' = (wrN s (slotAt gen) (page l) (pagesN l)).fl) ∨
     ((wrN s (slotAt gen) (page l) (pagesN l)).flE = 0 ∧ E = appE (wrN s (slotAt gen) (page l) (pagesN l)).fl (slotAt gen) (headL gen l) ∧ s' = appS (wrN s (slotAt gen) (page l) (pagesN l)).fl (slotAt gen) (headL gen l))))
/-- a disk, some steps on -/
def Stp (w0 w : World) (d : Nat) (ρ0 : Nat → Nat) (wr : World) (s' : DSt) : Prop := ∃ ρ, DL w0 wr d ρ s' ∧ Chg (Own ρ0) w wr ∧ ∀ i, i < w.heap.size → ρ0 i = 0 → ρ i = 0
theorem Stp.refl {w0 w : World} {d : Nat} {ρ0 : Nat → Nat} {s : DSt} (h : DL w0 w d ρ0 s) : Stp w0 w d ρ0 w s := ⟨ρ0, h, Chg.refl _ _, fun _ _ x => x⟩
theorem Stp.keep {w0 w wr w2 : World} {d : Nat} {ρ0 : Nat → Nat} {s : DSt} (h : Stp w0 w d ρ0 wr s) (hc : Chg NoB wr w2) : Stp w0 w d ρ0 w2 s := by
  obtain ⟨ρ, h1, h2, h3⟩ := h
  exact ⟨ρ, h1.keep hc, h2.trans hc (fun _ _ x => x.elim), h3⟩
theorem Stp.step {w0 w wr w2 : World} {d : Nat} {ρ0 ρ ρ2 : Nat → Nat} {s' : DSt} (h2 : Chg (Own ρ0) w wr) (h3 : ∀ i, i < w.heap.size → ρ0 i = 0 → ρ i = 0) (k1 : DL w0 w2 d ρ2 s') (k2 : Chg (Own ρ) wr w2) (k3 : ∀ i, i < wr.heap.size → ρ i = 0 → ρ2 i = 0) : Stp w0 w d ρ0 w2 s' := by
  refine ⟨ρ2, k1, h2.trans k2 (fun i hi x => ?_), fun i hi h0 => k3 i (by have := h2.size; omega) (h3 i hi h0)⟩
  by_cases c : ρ0 i = 0
  · exact absurd (h3 i hi c) x
  · exact c
def SavePost (w0 w : World) (d : Nat) (ρ0 : Nat → Nat) (s : DSt) (gen : Int) (l : List Int) (e : Ending) (w' : World) : Prop :=
  ∃ E s', e = .returned (.int .i64 E) ∧ Saves s gen l E s' ∧ Stp w0 w d ρ0 w' s'
theorem save_bad (P : Option Addr) (gen : Int) (A : Option Addr) (len c : Nat) (w : World) (hlen : len ≤ 140737488351232) (h : P = none ∨ 960 < len) :
    Calls Try.prog 14 #[.pointer P, .int .u32 gen, .slice A len c] w fun e w' => e = .returned (.int .i64 1) ∧ w = w' := by
  cases P with
  | none =>
    clear h
    go_enter Try.func14, Try.ntmps14
    go_wp2_with fail
    go_ret
    exact ⟨rfl, rfl⟩
  | some ad =>
    have h2 : 960 < len := h.resolve_left (by simp)
    clear h
    go_enter Try.func14, Try.ntmps14
    go_wp2_with fail
    go_ret
    exact ⟨rfl, rfl⟩
def SvB (w0 w : World) (d : Nat) (ρ0 : Nat → Nat) (s : DSt) (gen : Int) (l : List Int) (i : Value) (wr : World) : Prop :=
  ∃ k : Nat, k ≤ pagesN l ∧ i = .int .i64 k ∧ (∀ j, j < k → (wrN s (slotAt gen) (page l) j).wrE (slotAt gen + 1 + j) 64 = 0) ∧ Stp w0 w d ρ0 wr (wrN s (slotAt gen) (page l) k)
theorem buf_inb (w : World) : InB (w.alloc (.cells (Array.replicate 64 (.int .u8 0)) 5)) w.heap.size 0 (Array.replicate 64 (.int .u8 0)) 5 (List.replicate 64 0) := ⟨bnew w _, by simp, fun j hj => by
  rw [List.length_replicate] at hj
  rw [Nat.zero_add, Array.getElem?_replicate, if_pos hj, List.getD_eq_getElem?_getD, List.getElem?_replicate, if_pos hj]; rfl⟩
/-- the bytes behind a cut -/
theorem rd_drop {w : World} {A : Option Addr} {l : List Int} (h : Rd w .u8 A l) (a : Nat) (ha : a < l.length) : ∃ ad, A = some ad ∧ Rd w .u8 (some (ad.add a)) (l.drop a) := by
  obtain ⟨ad, e, _⟩ := h.at_ a ha
  refine ⟨ad, e, by have := h.1; rw [List.length_drop]; omega, fun hp => ⟨_, rfl, fun j hj => ?_⟩⟩
  rw [List.length_drop] at hj
  obtain ⟨ad', e', hc⟩ := h.at_ (a + j) (by omega)
  rw [e] at e'
  obtain rfl := Option.some.inj e'
  have e2 : (ad.add a).add j = ad.add (a + j) := by
    unfold Addr.add
    by_cases c1 : a = 0
    · subst c1; simp
    · by_cases c2 : j = 0
      · subst c2; simp [c1]
      · have c3 : ¬ (a + j = 0) := by omega
        simp [c1, c2, Nat.add_assoc]
  rw [e2, hc, List.getD_eq_getElem?_getD, List.getD_eq_getElem?_getD, List.getElem?_drop]
set_option maxHeartbeats 2000000 in
theorem save_any {w0 w : World} {d : Nat} {ρ0 : Nat → Nat} {s : DSt} (gen : Int) (A : Option Addr) (c : Nat) (l : List Int) (h : DL w0 w d ρ0 s) (g0 : 0 ≤ gen) (g1 : gen < 4294967296) (hl : l.length ≤ 960) (hr : Rd w .u8 A l) (hlt : 0 < l.length → Off A (Own ρ0)) (hcap : l.length ≤ c) (hb : Bytes l) :
    Calls Try.prog 14 #[.pointer (some ⟨d, 0, none⟩), .int .u32 gen, .slice A l.length c] w (SavePost w0 w d ρ0 s gen l) := by
  have hB : SvB w0 w d ρ0 s gen l (.int .i64 0) w := ⟨0, by omega, rfl, fun j hj => by omega, Stp.refl h⟩
  have hpn : pagesN l ≤ 15 := by unfold pagesN; omega
  have hpg := fun w => pages_any l.length w (by omega)
  have hat := fun w => at_any gen w g0 g1
  have hmk := make64
  have hd : decide (960 < (l.length : Int)) = false := by simp; omega
  have HR := Lib.hid (And.intro hr (And.intro hlt hb))
  have ep : (((l.length + 63) / 64 : Nat) : Int) = (pagesN l : Int) := rfl
  have hsl : slotAt gen = 64 + gen % 2 * 16 := rfl
  have hrng : 64 ≤ slotAt gen ∧ slotAt gen ≤ 80 := by unfold slotAt; omega
  obtain ⟨a, ha⟩ : ∃ a, a = slotAt gen := ⟨_, rfl⟩
  have HA := Lib.hid (And.intro ha hrng)
  clear h hr hlt hb hsl hrng ha
  go_enter Try.func14, Try.ntmps14
  go_wp2_with fail
  refine (hpg _).mono ?_
  rintro e w1 ⟨rfl, rfl⟩
  rw [ep]
  obtain ⟨P, hP⟩ : ∃ P, P = pagesN l := ⟨_, rfl⟩
  have HP := Lib.hid hP
  rw [← hP] at hpn ⊢
  clear hpg ep hP
  go_wp2_with fail
  go_loopw [22] (fun i wr => SvB w0 w d ρ0 s gen l i wr) (fun i wr => (64 - intOf i).toNat)
  case atStart => exact hB
  case round =>
    clear hB
    obtain ⟨k, hk, rfl, hok, ρ, hD, hC, hz⟩ := hrel
    rw [← HP.out] at hk
    by_cases hlk : k < P
    · have hk64 : k * 64 < l.length := by
        have := HP.out; unfold pagesN at this; omega
      obtain ⟨ad, rfl, hrd⟩ := rd_drop (HR.out.1.chg hC (fun hp ad e x => HR.out.2.1 hp ad e x)) (k * 64) hk64
      have i1 : (k : Int) * 64 ≤ (l.length : Int) := by omega
      have i2 : (l.length : Int) ≤ (c : Int) := by omega
      have i3 : (0 : Int) ≤ (k : Int) * 64 := by omega
      have i4 : ((k : Int) * 64).toNat = k * 64 := by omega
      have i5 : ¬ c = k * 64 := by omega
      have i6 : (k : Int) * 64 ≤ (c : Int) := by omega
      have xl : ((l.drop (k * 64)).take 64).length = Nat.min (l.length - k * 64) 64 := by rw [List.length_take, List.length_drop]; exact Nat.min_comm _ _
      have hrd1 := hrd.chg ((Chg.refl NoB wr).alloc (.cells (Array.replicate 64 (.int .u8 0)) 5)) (fun _ _ _ x => x)
      have hsrc : 0 < (((l.drop (k * 64)).take 64).map (Value.int .u8)).length → ∃ a', some (ad.add (k * 64)) = some a' ∧ ∀ j v, (((l.drop (k * 64)).take 64).map (Value.int .u8))[j]? = some v → (wr.alloc (.cells (Array.replicate 64 (.int .u8 0)) 5)).cell? (a'.add j) = some v := fun _ => ⟨_, rfl, fun j v hj => by
        rw [List.getElem?_map, List.getElem?_take] at hj
        by_cases c64 : j < 64
        · rw [if_pos c64] at hj
          by_cases cl : j < (l.drop (k * 64)).length
          · obtain ⟨a', e', hc'⟩ := hrd1.at_ j cl
            obtain rfl := Option.some.inj e'
            rw [hc', List.getD_eq_getElem?_getD]
            rw [List.getElem?_eq_getElem cl] at hj ⊢
            simpa using hj
          · rw [List.getElem?_eq_none (by omega)] at hj; cases hj
        · rw [if_neg c64] at hj; cases hj⟩
      have hmin : (((l.drop (k * 64)).take 64).map (Value.int .u8)).length = Nat.min (l.length - k * 64) 64 := by rw [List.length_map]; exact xl
      have hfit : 0 + (((l.drop (k * 64)).take 64).map (Value.int .u8)).length ≤ (Array.replicate 64 (Value.int .u8 0)).size := by
        rw [List.length_map, List.length_take]; simp; omega
      have hpg : page l k = spl (List.replicate 64 0) 0 ((l.drop (k * 64)).take 64) := by unfold page; rw [Nat.mul_comm]
      have one := one_u8 ((l.drop (k * 64)).take 64)
      have B0 := buf_inb wr
      have hbk := B0.bk
      have hBB : ∀ w5, Blk w5 wr.heap.size (splA (Array.replicate 64 (.int .u8 0)) 0 (((l.drop (k * 64)).take 64).map (Value.int .u8))) 5 → InB w5 wr.heap.size 0 (splA (Array.replicate 64 (.int .u8 0)) 0 (((l.drop (k * 64)).take 64).map (Value.int .u8))) 5 (page l k) := fun w5 hb5 => by
        rw [hpg]; exact inb_splA B0 hb5 (by rw [List.length_take, List.length_replicate]; omega)
      have nx : ∀ w5, Blk w5 wr.heap.size (splA (Array.replicate 64 (.int .u8 0)) 0 (((l.drop (k * 64)).take 64).map (Value.int .u8))) 5 → Chg (· = wr.heap.size) (wr.alloc (.cells (Array.replicate 64 (.int .u8 0)) 5)) w5 → Calls Try.prog 15 #[.pointer (some ⟨d, 0, none⟩), .int .i64 (64 + gen % 2 * 16 + 1 + k), .slice (some ⟨wr.heap.size, 0, none⟩) 64 64] w5 fun e w' => e = .returned (.int .i64 ((wrN s (slotAt gen) (page l) k).wrE (slotAt gen + 1 + k) 64)) ∧ Stp w0 w d ρ0 w' (wrN s (slotAt gen) (page l) (k + 1)) := by
        intro w5 hb5 hc5
        have I5 := hBB w5 hb5
        have c5 : Chg NoB wr w5 := ((Chg.refl NoB wr).alloc _).trans hc5 (fun i hi x => by omega)
        have D5 := hD.keep c5
        have pl := page_len l k
        have zr : ρ wr.heap.size = 0 := by
          obtain ⟨_, _, _, _, _, _, _, hp⟩ := hD.at_
          exact hp.rz _ (Nat.le_refl _)
        have hw := l_write (slotAt gen + 1 + k) (some ⟨wr.heap.size, 0, none⟩) 64 (page l k) D5 (fun x hx => by have := page_bytes HR.out.2.2 k x hx; omega) (I5.rd (by omega)) (fun _ ad e x => by
          obtain rfl := Option.some.inj e
          exact x zr)
        rw [pl] at hw
        refine hw.mono ?_
        rintro e w6 ⟨rfl, hC6, ρ6, hD6, hz6⟩
        rw [pl]
        exact ⟨rfl, Stp.step (hC.trans c5 (fun _ _ x => x.elim)) hz hD6 hC6 (fun i hi h0 => hz6 i hi h0)⟩
      have NX := Lib.hid nx
      have E0 := Lib.hid hok
      clear hBB nx hok hpg B0 hrd hrd1 hD hC hz xl
      generalize (l.drop (k * 64)).take 64 = xs at *
      go_wp2_with (first | ((with_reducible refine (hat _).mono ?_); rintro e w6 ⟨rfl, rfl⟩) | (with_reducible refine copy_into (w0 := wr.alloc (.cells (Array.replicate 64 (.int .u8 0)) 5)) (S := (· = wr.heap.size)) rfl (.tmp 26) (.tmp 30) 31 31 rfl 5 Try.underlying31 sz8 (some ⟨wr.heap.size, 0, none⟩) (some (ad.add (k * 64))) 64 64 (l.length - k * 64) (c - k * 64) rfl rfl wr.heap.size 0 (Array.replicate 64 (.int .u8 0)) 5 hbk (xs.map (Value.int .u8)) hmin (fun _ => rfl) hsrc hfit one (Chg.refl _ _) (.inl rfl) ?_; intro w5 h1 h2 h3) | fail)
      have hw := NX.out w5 h1 h2
      have hEF : ∀ E, (wrN s (slotAt gen) (page l) k).wrE (slotAt gen + 1 + k) 64 = E → E ≠ 0 → ∀ w6, Stp w0 w d ρ0 w6 (wrN s (slotAt gen) (page l) (k + 1)) → SavePost w0 w d ρ0 s gen l (.returned (.int .i64 E)) w6 := fun E h1 h2 w6 h3 => ⟨E, _, rfl, .inl ⟨k, by rw [← HP.out]; exact hlk, E0.out, h1, h2, rfl⟩, h3⟩
      have hEN : (wrN s (slotAt gen) (page l) k).wrE (slotAt gen + 1 + k) 64 = 0 → ∀ w6, Stp w0 w d ρ0 w6 (wrN s (slotAt gen) (page l) (k + 1)) → SvB w0 w d ρ0 s gen l (.int .i64 ((k : Int) + 1)) w6 := fun h1 w6 h3 => ⟨k + 1, by rw [← HP.out]; omega, rfl, fun j hj => by
        by_cases cj : j < k
        · exact E0.out j cj
        · obtain rfl : j = k := by omega
          exact h1, h3⟩
      have HEF := Lib.hid (And.intro hEF hEN)
      clear NX h1 h2 h3 hmin hfit hsrc one hbk E0 hEF hEN
      generalize (wrN s (slotAt gen) (page l) k).wrE (slotAt gen + 1 + k) 64 = E at *
      generalize wrN s (slotAt gen) (page l) (k + 1) = s2 at *
      by_cases hE : E = 0
      · subst hE
        refine hw.mono ?_
        rintro e w6 ⟨rfl, hS⟩
        have fin := HEF.out.2 rfl w6 hS
        clear hw HEF hS
        go_wp2_with fail
        exact ⟨fin, by simp [intOf]; omega⟩
      · have hEb : (E != 0) = true := by rw [bne_iff_ne]; exact hE
        refine hw.mono ?_
        rintro e w6 ⟨rfl, hS⟩
        have fin := HEF.out.1 E rfl hE w6 hS
        clear hw HEF hS hE
        go_wp2_with fail
        go_ret
        exact fin
    · obtain rfl : k = P := by omega
      have hPP := HP.out
      have hfl := l_flush hD
      have sv1 : (wrN s (slotAt gen) (page l) k).flE ≠ 0 → ∀ w', Stp w0 w d ρ0 w' (wrN s (slotAt gen) (page l) k).fl → SavePost w0 w d ρ0 s gen l (.returned (.int .i64 (wrN s (slotAt gen) (page l) k).flE)) w' := fun h1 w' h2 => ⟨_, _, rfl, .inr ⟨by rw [← hPP]; exact hok, .inl ⟨by rw [← hPP], h1, by rw [← hPP]⟩⟩, h2⟩
      have sv2 : (wrN s (slotAt gen) (page l) k).flE = 0 → ∀ E s', E = appE (wrN s (slotAt gen) (page l) k).fl (slotAt gen) (headL gen l) → s' = appS (wrN s (slotAt gen) (page l) k).fl (slotAt gen) (headL gen l) → ∀ w', Stp w0 w d ρ0 w' s' → SavePost w0 w d ρ0 s gen l (.returned (.int .i64 E)) w' := fun h1 E s' h2 h3 w' h4 => ⟨E, s', rfl, .inr ⟨by rw [← hPP]; exact hok, .inr ⟨by rw [← hPP]; exact h1, by rw [← hPP]; exact h2, by rw [← hPP]; exact h3⟩⟩, h4⟩
      have SV := Lib.hid (And.intro sv1 sv2)
      have HC := Lib.hid (And.intro hC hz)
      clear sv1 sv2 hD hC hz hok hPP HP
      generalize wrN s (slotAt gen) (page l) k = s1 at *
      by_cases hE : s1.flE = 0
      · rw [hE] at hfl
        have sv := Lib.hid (SV.out.2 hE)
        clear SV hE
        go_wp2_with fail
        refine hfl.mono ?_
        rintro e w2 ⟨rfl, hC2, ρ2, hD2, hi2⟩
        have st2 := Stp.step HC.out.1 HC.out.2 hD2 hC2 (fun i _ h0 => by
          by_cases c : ρ2 i = 0
          · exact c
          · exact absurd h0 ((hi2 i).mp c))
        have hhd := head_any gen A c l w2 g0 g1 (by omega) (HR.out.1.chg st2.choose_spec.2.1 HR.out.2.1) HR.out.2.2
        have hwr : ∀ w3 v g, Row w3 v g (headL gen l) → w2.heap.size ≤ g → Chg NoB w2 w3 → Calls Try.prog 15 #[.pointer (some ⟨d, 0, none⟩), .int .i64 (64 + gen % 2 * 16), v] w3 fun e w' => e = .returned (.int .i64 (s1.fl.wrE (slotAt gen) 64)) ∧ Stp w0 w d ρ0 w' (s1.fl.wr (slotAt gen) (headL gen l)) := by
          intro w3 v g hrow hg hc
          obtain ⟨ρ3, hD3, hC3, hz3⟩ := st2
          have zr : ρ3 g = 0 := by
            obtain ⟨_, _, _, _, _, _, _, hp⟩ := hD3.at_
            exact hp.rz g hg
          have hrd := hrow.rd
          obtain ⟨hln, hby, cp, Cq, rfl, _⟩ := hrow
          have hw := l_write (slotAt gen) (some ⟨g, 0, none⟩) cp (headL gen l) (hD3.keep hc) hby hrd (fun _ ad e x => by
            obtain rfl := Option.some.inj e
            exact x zr)
          rw [headL_len] at hw
          refine hw.mono ?_
          rintro e w6 ⟨rfl, hC6, ρ6, hD6, hz6⟩
          rw [headL_len]
          exact ⟨rfl, Stp.step (hC3.trans hc (fun _ _ x => x.elim)) hz3 hD6 hC6 hz6⟩
        have HW := Lib.hid hwr
        clear hfl hC2 hD2 hi2 st2 hwr HC HR
        go_wp2_with (first | ((with_reducible refine (hat _).mono ?_); rintro e w6 ⟨rfl, rfl⟩) | ((with_reducible refine hhd.mono ?_); rintro e w3 ⟨v, g, rfl, hrow, hg, hC3⟩; have hw := HW.out w3 v g hrow hg hC3) | fail)
        have ea : appE s1.fl (slotAt gen) (headL gen l) = if s1.fl.wrE (slotAt gen) 64 = 0 then (s1.fl.wr (slotAt gen) (headL gen l)).flE else s1.fl.wrE (slotAt gen) 64 := by unfold appE; rw [headL_len]
        have es : appS s1.fl (slotAt gen) (headL gen l) = if s1.fl.wrE (slotAt gen) 64 = 0 then (s1.fl.wr (slotAt gen) (headL gen l)).fl else s1.fl.wr (slotAt gen) (headL gen l) := by unfold appS; rw [headL_len]
        have sv3 := sv.out
        rw [ea, es] at sv3
        clear sv ea es HW hhd hrow hC3
        generalize s1.fl.wrE (slotAt gen) 64 = E at *
        generalize s1.fl.wr (slotAt gen) (headL gen l) = s2 at *
        by_cases hE : E = 0
        · subst hE
          rw [if_pos rfl, if_pos rfl] at sv3
          have sv := Lib.hid (sv3 s2.flE s2.fl rfl rfl)
          clear sv3
          refine hw.mono ?_
          rintro e w4 ⟨rfl, ρ4, hD4, hC4, hz4⟩
          have hfl := l_flush hD4
          have HC4 := Lib.hid (And.intro hC4 hz4)
          clear hw hD4 hC4 hz4
          generalize s2.flE = E2 at *
          go_wp2_with fail
          refine hfl.mono ?_
          rintro e w5 ⟨rfl, hC5, ρ5, hD5, hi5⟩
          have fin := sv.out w5 (Stp.step HC4.out.1 HC4.out.2 hD5 hC5 (fun i _ h0 => by
            by_cases c : ρ5 i = 0
            · exact c
            · exact absurd h0 ((hi5 i).mp c)))
          clear hfl hC5 hD5 hi5 sv HC4
          go_wp2_with fail
          go_ret
          exact fin
        · have hEb : (E != 0) = true := by rw [bne_iff_ne]; exact hE
          rw [if_neg hE, if_neg hE] at sv3
          have sv := Lib.hid (sv3 E s2 rfl rfl)
          clear sv3 hE
          refine hw.mono ?_
          rintro e w4 ⟨rfl, hS4⟩
          have fin := sv.out w4 hS4
          clear hw hS4 sv
          go_wp2_with fail
          go_ret
          exact fin
      · have sv := SV.out.1 hE
        have hEb : (s1.flE != 0) = true := by rw [bne_iff_ne]; exact hE
        have SVh := Lib.hid sv
        clear SV hE sv HR
        generalize s1.flE = E at *
        go_wp2_with fail
        refine hfl.mono ?_
        rintro e w2 ⟨rfl, hC2, ρ2, hD2, hi2⟩
        have fin := SVh.out w2 (Stp.step HC.out.1 HC.out.2 hD2 hC2 (fun i _ h0 => by
          by_cases c : ρ2 i = 0
          · exact c
          · exact absurd h0 ((hi2 i).mp c)))
        clear hfl hC2 hD2 hi2 SVh HC
        go_wp2_with fail
        go_ret
        exact fin
end Go.Proofs.Ytmonkoclbcahiaa.Slot
