/- Chapter 5: the law's 'all'; the reference's Slot and Load. -/
import Derived.Test.YtmonkoclbcahiaaSlotK
import Derived.Test.YtmonkoclbcahiaaLogD
import Derived.Test.YtmonkoclbcahiaaLogJ
import Derived.Test.YtmonkoclbcahiaaRGet
import Derived.Deep.RegionHeldLaw
namespace Go.Proofs.Ytmonkoclbcahiaa.Slot
open Go.RowKit Go.Proofs.Ytmonkoclbcahiaa.Hp Go.Proofs.Ytmonkoclbcahiaa.By Go.Proofs.Ytmonkoclbcahiaa.Disk Go.Proofs.Ytmonkoclbcahiaa.Word Go.Proofs.Ytmonkoclbcahiaa.WordP Go.Proofs.Ytmonkoclbcahiaa.Log
set_option linter.unusedVariables false
set_option linter.unusedSimpArgs false
/-- whole sectors, in a slice of the call's own -/
def SRows (w : World) (base : Nat) (v : Value) (n : Nat) (f : Nat → List Int) : Prop :=
  ∃ SVs, w.ownsRow base 31 1 v n SVs ∧ ∀ j, j < n → ∃ g V, SVs[j]? = some V ∧ Row w V g (f j) ∧ base ≤ g
theorem SRows.nil (w : World) (base : Nat) (f : Nat → List Int) : SRows w base (.slice none 0 0) 0 f := ⟨[], World.ownsRow_nil _ _ _ _, fun j hj => by omega⟩
theorem SRows.chg {S : Nat → Prop} {w w' : World} {base n : Nat} {v : Value} {f : Nat → List Int} (h : SRows w base v n f) (hc : Chg S w w') (hS : ∀ i, S i → i < base) : SRows w' base v n f := by
  obtain ⟨SVs, h1, h2⟩ := h
  refine ⟨SVs, own_chg h1 hc (fun g hg x => ?_), fun j hj => ?_⟩
  · have := (own_ge h1 g hg).1; have := hS g x; omega
  · obtain ⟨g, V, e1, e2, e3⟩ := h2 j hj
    exact ⟨g, V, e1, e2.chg hc (fun x => by have := hS g x; omega), e3⟩
theorem SRows.add {w w' : World} {base n : Nat} {v v' V : Value} {f : Nat → List Int} {SVs : List Value} {g : Nat}
    (h2 : ∀ j, j < n → ∃ g V, SVs[j]? = some V ∧ Row w V g (f j) ∧ base ≤ g)
    (hown : w.ownsRow base 31 1 v n SVs) (h' : w'.ownsRow base 31 1 v' (n + 1) (SVs ++ [V])) (hc : Chg (fun i => v.ownBlock = some i) w w')
    (hr : Row w V g (f n)) (hg : base ≤ g) : SRows w' base v' (n + 1) f := by
  have hlen : SVs.length = n := by have := hown.1; simpa using this
  have ne : ∀ {g l vv}, Row w vv g l → ¬ (v.ownBlock = some g) := by
    intro g l vv hr x
    obtain ⟨_, _, _, C, _, _, hb1, _⟩ := hr
    obtain ⟨_, C', hb2⟩ := own_ge hown g x
    have := hb1.symm.trans hb2
    simp at this
  refine ⟨_, h', fun j hj => ?_⟩
  by_cases c' : j < n
  · obtain ⟨g, V, e1, e2, e3⟩ := h2 j c'
    exact ⟨g, V, by rw [List.getElem?_append_left (by omega)]; exact e1, e2.chg hc (ne e2), e3⟩
  · obtain rfl : j = n := by omega
    exact ⟨g, V, by rw [List.getElem?_append_right (by omega), hlen]; simp, hr.chg hc (ne hr), hg⟩
def SecB (w0 w : World) (d : Nat) (ρ : Nat → Nat) (s : DSt) (out i : Value) (wr : World) : Prop :=
  ∃ m : Nat, m ≤ 100 ∧ i = .int .i64 m ∧ Chg (Own ρ) w wr ∧ SRows wr w.heap.size out m (fun j => s.get (j : Int)) ∧ DL w0 wr d ρ s
def SecsPost (w0 w : World) (d : Nat) (ρ : Nat → Nat) (s : DSt) (e : Ending) (w' : World) : Prop :=
  ∃ v, e = .returned v ∧ Chg (Own ρ) w w' ∧ SRows w' w.heap.size v 100 (fun j => s.get (j : Int)) ∧ DL w0 w' d ρ s
set_option maxRecDepth 100000 in
set_option maxHeartbeats 2000000 in
theorem all_law {w0 w : World} {d : Nat} {ρ : Nat → Nat} {s : DSt} (hcalm : Disk.Calm s) (hn : 100 ≤ s.n) (h : DL w0 w d ρ s) :
    Calls Try.prog 18 #[.pointer (some ⟨d, 0, none⟩)] w (SecsPost w0 w d ρ s) := by
  have hB : SecB w0 w d ρ s (.slice none 0 0) (.int .i64 0) w := ⟨0, by omega, rfl, Chg.refl _ _, SRows.nil _ _ _, h⟩
  have hw0 := h.ch.size
  have hρ : ∀ i, Own ρ i → i < w.heap.size := fun i hi => by
    obtain ⟨_, _, _, _, _, _, _, hp⟩ := h.at_
    by_cases c : i < w.heap.size
    · exact c
    · exact absurd (hp.rz i (by omega)) hi
  clear h
  go_enter Try.func18, Try.ntmps18
  go_wp2_with fail
  go_loopw [3, 4] (fun out i wr => SecB w0 w d ρ s out i wr) (fun _ i wr => (100 - intOf i).toNat)
  case atStart => exact hB
  case round =>
    clear hB
    obtain ⟨m, hm, rfl, hC, hL, hD⟩ := hrel
    by_cases hlt : m < 100
    · have hrd := l_read (m : Int) hD
      have e0 : s.ioE m = 0 := calm_ioE hcalm (by omega) (by omega)
      have eio : s.io m = s := calm_io hcalm m
      have H := Lib.hid (And.intro hC (And.intro hL (And.intro e0 eio)))
      have hsz := hC.size
      clear hC hL hD e0 eio
      go_wp2_with fail
      refine hrd.mono ?_
      rintro e w2 ⟨v, rfl, hD, hc2, hrow, _⟩
      obtain ⟨g, hrow, hgw⟩ := hrow H.out.2.2.1
      rw [H.out.2.2.1]
      rw [H.out.2.2.2] at hD
      have hL2 := H.out.2.1.chg hc2 hρ
      obtain ⟨SVs, hown, hels⟩ := hL2
      have hbase : w.heap.size ≤ w2.heap.size := by have := hc2.size; omega
      have HR := Lib.hid (And.intro hrow (And.intro hc2 hD))
      obtain ⟨_, _, cp, Cq, rfl, _⟩ := hrow
      have fin : ∀ v' w4, w4.ownsRow w.heap.size 31 1 v' (m + 1) (SVs ++ [.slice (some ⟨g, 0, none⟩) 64 cp]) → Chg (fun i => u3.ownBlock = some i) w2 w4 → SecB w0 w d ρ s v' (.int .i64 ((m : Int) + 1)) w4 := by
        intro v' w4 h4 hc4
        have nO : ∀ i, u3.ownBlock = some i → w.heap.size ≤ i := fun i hi => (own_ge hown i hi).1
        have hd3 := HR.out.2.2
        have hDD : DL w0 w4 d ρ s := by
          cases ho : u3.ownBlock with
          | none => exact hd3.keep (hc4.mono (fun i _ x => by rw [ho] at x; cases x))
          | some g' =>
            have hg' := nO g' ho
            refine hd3.side (g := g') (hc4.mono (fun i _ x => by rw [ho] at x; exact (Option.some.inj x).symm)) ?_ (by omega)
            by_cases c : ρ g' = 0
            · exact c
            · have := hρ g' c; omega
        exact ⟨m + 1, by omega, rfl, (H.out.1.trans HR.out.2.1 (fun _ _ x => x)).trans hc4 (fun i hi x => by have := nO i x; omega), SRows.add hels hown h4 hc4 HR.out.1 (by omega), hDD⟩
      have FI := Lib.hid fin
      clear fin hrd H hc2 hels HR hD
      go_wp2_with (first | (at_builtin; go_loud (refine append_own2 (w := w2) (base := w.heap.size) rfl (.tmp 17) (.tmp 19) 23 31 rfl (.slice none 0 0) 24 Try.underlying23 info24 rfl u3 m SVs (by rfl) hbase hown (.slice (some ⟨g, 0, none⟩) 64 cp) 31 (by rfl) rfl (by omega) (by omega) ?_); intro v' w4 hown' hCo))
      exact ⟨FI.out v' w4 hown' hCo, by simp [intOf]; omega⟩
    · obtain rfl : m = 100 := by omega
      have fin : ∀ v, SRows wr w.heap.size v 100 (fun j => s.get (j : Int)) → SecsPost w0 w d ρ s (.returned v) wr := fun v hL => ⟨v, rfl, hC, hL, hD⟩
      have F := fin _ hL
      clear fin hC hL hD
      go_wp2_with fail
      go_ret
      exact F
/-- sectors that lie in a slice -/
def SInN (w : World) (A : Option Addr) (n : Nat) (f : Nat → List Int) : Prop := ∀ j, j < n → ∃ ad g V, A = some ad ∧ w.cell? (ad.add j) = some V ∧ Row w V g (f j)
theorem SInN.keep {w w' : World} {A : Option Addr} {n : Nat} {f : Nat → List Int} (h : SInN w A n f) (hc : Chg NoB w w') : SInN w' A n f := fun j hj => by
  obtain ⟨ad, g, V, e, h1, h2⟩ := h j hj
  exact ⟨ad, g, V, e, hc.cell h1 (fun x => x), h2.chg hc (fun x => x)⟩
theorem SRows.sin {w : World} {base n : Nat} {v : Value} {f : Nat → List Int} (h : SRows w base v n f) : ∃ A c, v = .slice A n c ∧ n ≤ c ∧ SInN w A n f := by
  obtain ⟨SVs, hown, hels⟩ := h
  have hlen : SVs.length = n := by have := hown.1; simpa using this
  rcases hown.2 with ⟨rfl, h0⟩ | ⟨g, cap, cur, rfl, _, _, hcap, _⟩
  · exact ⟨none, 0, by rw [h0], by omega, fun j hj => by omega⟩
  · refine ⟨_, cap, rfl, by omega, fun j hj => ?_⟩
    obtain ⟨g2, V, e1, e2, _⟩ := hels j hj
    exact ⟨_, g2, V, rfl, hown.cells (g := g) rfl j V e1, e2⟩
theorem SInN.cut {w : World} {ad : Addr} {n : Nat} {f : Nat → List Int} (h : SInN w (some ad) n f) (a k : Nat) (hk : a + k ≤ n) : SInN w (some (ad.add a)) k (fun j => f (a + j)) := fun j hj => by
  obtain ⟨ad', g, V, e, h1, h2⟩ := h (a + j) (by omega)
  obtain rfl := Option.some.inj e
  exact ⟨_, g, V, rfl, by rw [Addr.add_add]; exact h1, h2⟩
theorem cat_more (f : Nat → List Int) (b k : Nat) : ∀ q, ∃ r, cat f b (k + q) = cat f b k ++ r
  | 0 => ⟨[], by simp⟩
  | q + 1 => by
    obtain ⟨r, h⟩ := cat_more f b k q
    exact ⟨r ++ f (b + (k + q)), by show cat f b (k + q) ++ f (b + (k + q)) = _; rw [h, List.append_assoc]⟩
theorem cat_take {f : Nat → List Int} {b P n k : Nat} (h : ∀ j, j < P → (f (b + j)).length = 64) (hP : P ≤ k) (hn : n ≤ 64 * P) : (cat f b k).take n = (cat f b P).take n := by
  obtain ⟨r, e⟩ := cat_more f b P (k - P)
  rw [show P + (k - P) = k by omega] at e
  rw [e, List.take_append_of_le_length (by rw [cat_len h]; exact hn)]
def RSlotPost (w : World) (f : Nat → List Int) (which : Nat) (e : Ending) (w' : World) : Prop :=
  ∃ g v ok, e = .returned (.tuple #[.int .u32 g, v, .bool ok]) ∧ Chg NoB w w' ∧ 0 ≤ g ∧ g < 4294967296 ∧ ((oneOf f which = none ∧ ok = false) ∨ ∃ b, oneOf f which = some (g, b) ∧ ok = true ∧ OwnB w.heap.size w' v b)
def RsB (w : World) (f : Nat → List Int) (a : Nat) (out i : Value) (wr : World) : Prop :=
  ∃ k m : Nat, k ≤ 15 ∧ m = k + 1 ∧ i = .int .i64 m ∧ wr.ownsRow w.heap.size 5 1 out (64 * k) ((cat f (a + 1) k).map (Value.int .u8)) ∧ Bytes (cat f (a + 1) k) ∧ (∀ j, j < k → (f (a + 1 + j)).length = 64) ∧ Chg NoB w wr
set_option maxRecDepth 100000 in
set_option maxHeartbeats 20000000 in
theorem rslot_any (which : Nat) (hw : which < 2) (ad : Addr) (c : Nat) (f : Nat → List Int) (w : World) (hc16 : 16 ≤ c) (h : SInN w (some ad) 16 (fun j => f (64 + 16 * which + j))) :
    Calls Try.prog 42 #[.slice (some ad) 16 c, .int .u32 which] w (RSlotPost w f which) := by
  obtain ⟨ad', gH, V, e, x0, hrow0⟩ := h 0 (by omega)
  obtain rfl := Option.some.inj e
  have ea : ad.add 0 = ad := by unfold Addr.add; simp
  rw [ea] at x0
  have hrow : Row w V gH (f (64 + 16 * which)) := hrow0
  clear hrow0
  have hrowH := hrow
  obtain ⟨H, hH⟩ : ∃ H, H = f (64 + 16 * which) := ⟨_, rfl⟩
  rw [← hH] at hrow hrowH
  obtain ⟨hHl, hHb0, cp, Cq, rfl, _⟩ := hrow
  have hHb : Bytes H := fun x hx => by have := hHb0 x hx; omega
  have hrd2 := hrowH.rd
  have gt1 := fun w' (hc : Chg NoB w w') => rget_yes (some ⟨gH, 0, none⟩) cp H 0 4 w' (hrd2.chg hc (fun _ _ _ x => x)) hHb (by omega) (by omega)
  have gt2 := fun w' (hc : Chg NoB w w') => rget_yes (some ⟨gH, 0, none⟩) cp H 4 4 w' (hrd2.chg hc (fun _ _ _ x => x)) hHb (by omega) (by omega)
  rw [hHl] at gt1 gt2
  have b1 := leN4 hHb hHl 0 (by omega)
  have b2 := leN4 hHb hHl 4 (by omega)
  obtain ⟨G, hG⟩ : ∃ G, G = leN ((H.drop 0).take 4) := ⟨_, rfl⟩
  obtain ⟨n, hn⟩ : ∃ n : Nat, (n : Int) = leN ((H.drop 4).take 4) := ⟨(leN ((H.drop 4).take 4)).toNat, by omega⟩
  rw [← hG] at gt1 b1
  rw [← hn] at gt2 b2
  have g1' := gt1 w (Chg.refl _ _)
  have g2' := gt2 w (Chg.refl _ _)
  have HH := Lib.hid (And.intro hH (And.intro hG (And.intro hn (And.intro hrowH (And.intro hHl (And.intro hHb h))))))
  clear gt1 gt2 hH hG hn hrowH hHl hHb hHb0 hrd2 h
  obtain ⟨g0, g1⟩ := b1
  obtain ⟨n0, n1⟩ := b2
  go_enter Try.func42, Try.ntmps42
  go_wp2_with fail
  refine g1'.mono ?_
  rintro e w3 ⟨rfl, rfl⟩
  clear g1'
  go_wp2_with fail
  refine g2'.mono ?_
  rintro e w3 ⟨rfl, rfl⟩
  clear g2'
  by_cases hbig : 960 < n
  · have hb2 : decide (960 < (n : Int)) = true := decide_eq_true (by omega)
    have fin : RSlotPost w f which (.returned (.tuple #[.int .u32 0, .slice none 0 0, .bool false])) w := by
      refine ⟨0, _, false, rfl, Chg.refl _ _, by omega, by omega, .inl ⟨?_, rfl⟩⟩
      unfold oneOf
      rw [← HH.out.1, ← HH.out.2.2.1, if_pos (by omega)]
    clear HH hbig
    go_wp2_with fail
    go_ret3
    exact fin
  · have hb2 : decide (960 < (n : Int)) = false := decide_eq_false (by omega)
    have hB : RsB w f (64 + 16 * which) (.slice none 0 0) (.int .i64 1) w := ⟨0, 1, by omega, rfl, rfl, World.ownsRow_nil _ _ _ _, (fun x hx => by cases hx), fun j hj => by omega, Chg.refl _ _⟩
    go_wp2_with fail
    go_loopw [11, 12] (fun out i wr => RsB w f (64 + 16 * which) out i wr) (fun _ i wr => (64 - intOf i).toNat)
    case atStart => exact hB
    case round =>
      clear hB
      obtain ⟨k, m, hk, hmk, rfl, hown, hby, hlen, hC⟩ := hrel
      have HM := Lib.hid hmk
      by_cases hlt : m < 16
      · obtain ⟨ad', g4, V4, e, x4, hrow4⟩ := HH.out.2.2.2.2.2.2 m (by omega)
        obtain rfl := Option.some.inj e
        have x4w := hC.cell x4 (fun x => x)
        have hrow4w := hrow4.chg hC (fun x => x)
        replace hrow4w : Row wr V4 g4 (f (64 + 16 * which + 1 + k)) := by rw [show 64 + 16 * which + 1 + k = 64 + 16 * which + m by omega]; exact hrow4w
        have hcat : cat f (64 + 16 * which + 1) (k + 1) = cat f (64 + 16 * which + 1) k ++ f (64 + 16 * which + 1 + k) := rfl
        obtain ⟨L, hL⟩ : ∃ L, L = f (64 + 16 * which + 1 + k) := ⟨_, rfl⟩
        rw [← hL] at hrow4w hcat
        have hrow4' := hrow4w
        obtain ⟨hl4, hb4, cp4, Cq4, rfl, _⟩ := hrow4w
        have hxl : (L.map (Value.int .u8)).length = 64 := by rw [List.length_map]; exact hl4
        have HXl := Lib.hid (show ∀ v, v = Value.slice (some ⟨g4, 0, none⟩) 64 cp4 → v = .slice (some ⟨g4, 0, none⟩) (L.map (Value.int .u8)).length cp4 from fun v h => by rw [hxl]; exact h)
        have hsrc := rd_src hrow4'.rd
        have b3 : 64 * k + (L.map (Value.int .u8)).length ≤ 9223372036854775807 := by omega
        have b4 : (64 * k + (L.map (Value.int .u8)).length) * 1 ≤ 140737488355328 := by omega
        have onel := one_u8 L
        have fin : ∀ v' w5, w5.ownsRow w.heap.size 5 1 v' (64 * k + (L.map (Value.int .u8)).length) ((cat f (64 + 16 * which + 1) k).map (Value.int .u8) ++ L.map (Value.int .u8)) → Chg NoB w w5 → RsB w f (64 + 16 * which) v' (.int .i64 ((m : Int) + 1)) w5 := by
          intro v' w5 h5 hC5
          refine ⟨k + 1, m + 1, by omega, by omega, rfl, ?_, ?_, fun j hj => ?_, hC5⟩
          · rw [hcat, List.map_append]
            rw [hxl] at h5
            exact h5
          · rw [hcat]
            intro x hx
            rcases List.mem_append.mp hx with hx | hx
            · exact hby x hx
            · have := hb4 x hx; omega
          · by_cases cj : j < k
            · exact hlen j cj
            · obtain rfl : j = k := by omega
              rw [← hL]; exact hl4
        have FN := Lib.hid fin
        have i1 : (m : Int) < 16 := by omega
        clear fin hmk hk hrow4' hl4 hb4 hxl hcat hL hby hlen x4 hrow4
        go_wp2_with (first | (at_builtin; refine append_src (w0 := w) (S := NoB) rfl (.tmp 36) (.tmp 40) 31 5 rfl (.int .u8 0) 1 Try.underlying31 info8 rfl u11 (64 * k) _ rfl hC hown (L.map (Value.int .u8)) (some ⟨g4, 0, none⟩) cp4 (HXl.out _ rfl) (fun e => by cases e) hsrc onel b3 b4 ?_; intro v' w5 hown5 hC5) | go_in)
        exact ⟨FN.out v' w5 hown5 hC5, by simp [intOf]; omega⟩
      · have hk15 : k = 15 := by omega
        obtain ⟨P, hP⟩ : ∃ P, P = (n + 63) / 64 := ⟨_, rfl⟩
        have hfm : ∀ A c, u11 = .slice A (64 * k) c → ∀ ad, A = some ad → ∃ g, ad = ⟨g, 0, none⟩ := fun A c e ad h => by
          rcases hown.2 with ⟨e2, _⟩ | ⟨g, cap, cur, e2, _⟩
          · rw [e] at e2; injection e2 with e3; rw [h] at e3; cases e3
          · rw [e] at e2; injection e2 with e3; rw [h] at e3; exact ⟨g, Option.some.inj e3⟩
        obtain ⟨A, cA, rfl, hcl, hcp, hrdA, hoffA⟩ := own_rd hown (by omega)
        have hfm2 := hfm A cA rfl
        clear hfm
        have htk := cat_take (f := f) (b := 64 + 16 * which + 1) (P := P) (n := n) (k := k) (fun j hj => hlen j (by omega)) (by omega) (by omega)
        have htl : ((cat f (64 + 16 * which + 1) k).take n).length = n := by rw [List.length_take]; omega
        have hbt : Bytes ((cat f (64 + 16 * which + 1) k).take n) := fun x hx => hby x (List.mem_of_mem_take hx)
        have hrt := rd_take hrdA n
        have hone : oneOf f which = if G % 2 = (which : Int) ∧ headL G ((cat f (64 + 16 * which + 1) k).take n) = H then some (G, (cat f (64 + 16 * which + 1) k).take n) else none := by
          unfold oneOf
          rw [← HH.out.1, ← HH.out.2.2.1, ← HH.out.2.1, if_neg (by omega), Int.toNat_natCast, ← hP, htk]
        have hown' := fun w' (hc : Chg NoB wr w') => hrt.chg hc (fun _ _ _ x => x)
        obtain ⟨adA, rfl, _⟩ := hrdA.at_ 0 (by omega)
        have hhd := rhead_any G (some adA) cA ((cat f (64 + 16 * which + 1) k).take n) wr.drew g0 g1 (by omega) (hrt.chg ((Chg.refl NoB wr).drew) (fun _ _ _ x => x)) hbt (fun e => by cases e)
        rw [htl] at hhd
        have i1 : n ≤ cA := by omega
        have i2 : (n : Int) ≤ (cA : Int) := by omega
        have i15 : decide ((m : Int) < 16) = false := decide_eq_false (by omega)
        have x0w := hC.cell x0 (fun x => x)
        have fin0 : ∀ w', Chg NoB wr w' → (oneOf f which = none) → RSlotPost w f which (.returned (.tuple #[.int .u32 G, .slice (some adA) n cA, .bool false])) w' := fun w' hc hn => ⟨G, _, false, rfl, hC.trans hc (fun _ _ x => x), g0, g1, .inl ⟨hn, rfl⟩⟩
        have fin1 : ∀ w', Chg NoB wr w' → oneOf f which = some (G, (cat f (64 + 16 * which + 1) k).take n) → RSlotPost w f which (.returned (.tuple #[.int .u32 G, .slice (some adA) n cA, .bool true])) w' := fun w' hc hn => ⟨G, _, true, rfl, hC.trans hc (fun _ _ x => x), g0, g1, .inr ⟨_, hn, rfl, some adA, cA, by rw [htl], by rw [htl]; exact i1, hown' w' hc, hoffA, hbt, hfm2⟩⟩
        have hsm : ∀ w', Chg NoB wr w' → ∀ S A5 c5, S.length = 64 → Rd w' .u8 A5 S → Calls Try.prog 19 #[.slice A5 64 c5, .slice (some ⟨gH, 0, none⟩) 64 cp] w' (RetB (decide (S = H)) w') := fun w' hc S A5 c5 hS h5 => by
          have := same_any A5 (some ⟨gH, 0, none⟩) c5 cp S H w' h5 (HH.out.2.2.2.1.rd.chg (hC.trans hc (fun _ _ x => x)) (fun _ _ _ x => x))
          rwa [hS, HH.out.2.2.2.2.1] at this
        have hSl := headL_len G ((cat f (64 + 16 * which + 1) k).take n)
        have FF := Lib.hid (And.intro fin0 (And.intro fin1 (And.intro hone (And.intro hsm hSl))))
        clear fin0 fin1 hone hsm hSl hbt hfm2 hown' hrt hrdA hoffA hown hby hC HH htl htk hcl hlen hP x0 i1 hk15 hmk hk
        generalize (cat f (64 + 16 * which + 1) k).take n = bs at *
        have ew : IntKind.u32.wrap G = G := by rw [IntKind.wrap_u32]; omega
        by_cases hpar : G % 2 = (which : Int)
        · have hpb : (G.tmod 2 == (which : Int)) = true := by rw [beq_iff_eq, Int.tmod_eq_emod_of_nonneg g0]; exact hpar
          have hpb2 : ((IntKind.u32.wrap G).tmod 2 == (which : Int)) = true := by rw [ew]; exact hpb
          have HPB := Lib.hid hpar
          clear hpar
          generalize headL G bs = S at *
          go_wp2_with fail
          go_region_held_law (fun w' => w'.cell? ad = some (.slice (some ⟨gH, 0, none⟩) 64 cp)) (first | go_keep | exact x6 | exact x7)
            (first
              | (go_at_call 47; ((with_reducible refine hhd.mono ?_); rintro e w6 ⟨A5, c5, rfl, h5, hC6⟩; have hcw : Chg NoB wr w6 := ((Chg.refl NoB wr).drew).trans hC6 (fun _ _ x => x); have x6 := hcw.cell x0w (fun x => x); have sm := FF.out.2.2.2.1 w6 hcw S A5 c5 FF.out.2.2.2.2 h5))
              | (go_at_call 19; ((with_reducible refine sm.mono ?_); rintro e w7 ⟨rfl, hC7⟩; have x7 := hC7.cell x6 (fun x => x))))
          all_goals
            have fin : RSlotPost w f which (.returned (.tuple #[.int .u32 G, .slice (some adA) n cA, .bool (decide (S = H))])) w7 := by
              have hcw : Chg NoB wr w7 := (((Chg.refl NoB wr).drew).trans hC6 (fun _ _ x => x)).trans hC7 (fun _ _ x => x)
              obtain ⟨f0, f1, ho, _, _⟩ := FF.out
              by_cases e : S = H
              · rw [if_pos ⟨HPB.out, e⟩] at ho
                rw [decide_eq_true e]
                exact f1 w7 hcw ho
              · rw [if_neg (fun x => e x.2)] at ho
                rw [decide_eq_false e]
                exact f0 w7 hcw ho
            clear FF hhd HPB sm hC6 hC7 h5
            generalize decide (S = H) = ok at *
            go_wp2_with fail
            go_ret3
            exact fin
        · have hpb : (G.tmod 2 == (which : Int)) = false := by rw [beq_eq_false_iff_ne, Int.tmod_eq_emod_of_nonneg g0]; exact hpar
          have fin := fun w' hc => FF.out.1 w' hc (by rw [FF.out.2.2.1, if_neg (fun x => hpar x.1)])
          have fin2 : ∀ w', Chg NoB wr w' → RSlotPost w f which (.returned (.tuple #[.int .u32 (IntKind.u32.wrap G), .slice (some adA) n cA, .bool false])) w' := fun w' hc => by rw [ew]; exact fin w' hc
          have FN := Lib.hid (And.intro fin fin2)
          have hpb2 : ((IntKind.u32.wrap G).tmod 2 == (which : Int)) = false := by rw [ew]; exact hpb
          clear fin fin2 FF hhd hpar
          go_wp2_with fail
          clear hw hc16 ea x0w hbig i2 i15 hlt HM hpb n0 n1 hb2 ew g0 g1
          go_quiet (fail)
          go_wp2_with fail
          go_ret3
          first | exact FN.out.1 _ ((Chg.refl NoB wr).drewN _) | exact FN.out.2 _ ((Chg.refl NoB wr).drewN _)
end Go.Proofs.Ytmonkoclbcahiaa.Slot
