/- Chapter 5: SlotLoads. -/
import Derived.Test.YtmonkoclbcahiaaSlotM
import Derived.Test.YtmonkoclbcahiaaSlotI
import Derived.Test.YtmonkoclbcahiaaOpen
import Derived.Deep.RegionHeld3
namespace Go.Proofs.Ytmonkoclbcahiaa.Slot
open Go.RowKit Go.Proofs.Ytmonkoclbcahiaa.Hp Go.Proofs.Ytmonkoclbcahiaa.By Go.Proofs.Ytmonkoclbcahiaa.Disk Go.Proofs.Ytmonkoclbcahiaa.Word Go.Proofs.Ytmonkoclbcahiaa.WordP Go.Proofs.Ytmonkoclbcahiaa.Log Go.Proofs.Ytmonkoclbcahiaa.Opn
set_option linter.unusedVariables false
set_option linter.unusedSimpArgs false
structure PartV where
  at_ : Int
  A : Option Addr
  len : Nat
  cap : Nat
  zs : List Int
def partCells (x : PartV) : List Value := [.int .i64 x.at_, .slice x.A x.len x.cap]
def PartAt (w : World) (ad : Addr) (i : Nat) (x : PartV) : Prop := (∀ j v, (partCells x)[j]? = some v → w.cell? (ad.add (i * 2 + j)) = some v) ∧ IsRow .u8 w x.A x.len x.cap x.zs
def IsParts (w : World) (A : Option Addr) (len cap : Nat) (X : Nat → PartV) : Prop := (A = none ∧ len = 0 ∧ cap = 0) ∨ ∃ ad, A = some ad ∧ len ≤ cap ∧ cap ≤ maxLen ∧ ∀ i, i < len → PartAt w ad i (X i)
section
variable {H : Type} {enc : TypeId × Value → H} {w : World} {base : Nat} {spare : Nat → Bool} {held : Bool}
theorem part_of (l : List Value) (n : Nat) (hl : l.length = 2) (hsp : ∀ b, spare b = true)
    (h0 : ∃ y, DataW.trod enc Try.prog w base spare held n 3 ((l.drop 0).take (Try.prog.cellsOf 3)) = some y) (h1 : ∃ y, DataW.trod enc Try.prog w base spare held n 31 ((l.drop 1).take (Try.prog.cellsOf 31)) = some y) :
    ∃ x : PartV, l = partCells x ∧ IsRow .u8 w x.A x.len x.cap x.zs := by
  rw [show Try.prog.cellsOf 3 = 1 by kernel_rfl] at h0
  rw [show Try.prog.cellsOf 31 = 1 by kernel_rfl] at h1
  match l, hl with
  | [c0, c1], _ =>
    obtain ⟨y0, h0⟩ := h0
    obtain ⟨y1, h1⟩ := h1
    obtain ⟨n0, e0, -, -⟩ := DataW.trod_int Try.underlying3 h0
    obtain ⟨A, le, ca, zs, e4, hr⟩ := row_of_trod (v := c1) Try.underlying31 Try.underlying5 (by kernel_rfl) (by simpa using h1) hsp
    have f0 : c0 = .int .i64 n0 := by simpa using e0
    exact ⟨⟨n0, A, le, ca, zs⟩, by rw [f0, e4]; rfl, hr⟩
theorem parts_open {fuel : Nat} {x : DataW H × List MemPlace} {a : Option Addr} {len cap : Nat} (h : DataW.trod enc Try.prog w base spare held fuel 24 [.slice a len cap] = some x) (hsp : ∀ b, spare b = true) : ∃ X, IsParts w a len cap X := by
  have hc : Try.prog.cellsOf 34 = 2 := by kernel_rfl
  rcases open_elems Try.underlying24 Try.underlying34 h with hcs | ⟨ad, l, c, hcs, hl, hm, hi⟩
  · simp at hcs
    obtain ⟨rfl, rfl, rfl⟩ := hcs
    exact ⟨fun _ => ⟨0, none, 0, 0, []⟩, .inl ⟨rfl, rfl, rfl⟩⟩
  · simp at hcs
    obtain ⟨rfl, rfl, rfl⟩ := hcs
    have each : ∀ i, ∃ x : PartV, i < len → PartAt w ad i x := by
      intro i
      by_cases hil : i < len
      · obtain ⟨cs, n, hcl, hat, hf⟩ := hi i hil
        rw [hc] at hcl hat
        obtain ⟨x, e, hr⟩ := part_of (enc := enc) (w := w) (base := base) (spare := spare) (held := held) cs n hcl hsp (hf 0 _ rfl) (hf 1 _ rfl)
        exact ⟨x, fun _ => ⟨fun j v hj => hat j v (by rw [e]; exact hj), hr⟩⟩
      · exact ⟨⟨0, none, 0, 0, []⟩, fun h => absurd h hil⟩
    exact ⟨fun i => (each i).choose, .inr ⟨ad, rfl, hl, hm, fun i hil => (each i).choose_spec hil⟩⟩
end
theorem PartAt.two {w : World} {ad : Addr} {i : Nat} {x : PartV} (h : PartAt w ad i x) : w.cell? (ad.add (i * 2)) = some (.int .i64 x.at_) ∧ w.cell? ⟨(ad.add (i * 2)).block, (ad.add (i * 2)).off + 1, none⟩ = some (.slice x.A x.len x.cap) := by
  have h0 := h.1 0 _ rfl
  have h1 := h.1 1 _ rfl
  have e : ∀ k, 0 < k → ad.add (i * 2 + k) = ⟨(ad.add (i * 2)).block, (ad.add (i * 2)).off + k, none⟩ := fun k hk => by
    unfold Addr.add
    by_cases c : i * 2 = 0
    · have c2 : ¬ (i * 2 + k = 0) := by omega
      rw [if_neg c2, if_pos c]; simp [c]
    · have c2 : ¬ (i * 2 + k = 0) := by omega
      rw [if_neg c2, if_neg c]; simp [Nat.add_assoc]
  rw [e 1 (by decide)] at h1
  exact ⟨h0, h1⟩
theorem calm_wr_any {s : DSt} (h : Disk.Calm s) (n : Int) (l : List Int) : Disk.Calm (s.wr n l) ∧ (s.wr n l).n = s.n := by
  unfold DSt.wr
  rw [calm_io h]
  split
  · split
    · exact ⟨h, rfl⟩
    · exact ⟨h, rfl⟩
  · exact ⟨h, rfl⟩
/-- a Write of bytes that came in -/
theorem write_in2 {w0 w : World} {d : Nat} {ρ : Nat → Nat} {s : DSt} (h : DL w0 w d ρ s) (hs : Disk.Calm s ∧ s.n = 192) (n : Int) (A : Option Addr) (len cap : Nat) (zs : List Int) (hr : IsRow .u8 w0 A len cap zs) :
    Calls Try.prog 15 #[.pointer (some ⟨d, 0, none⟩), .int .i64 n, .slice A len cap] w fun e w' => ∃ E, e = .returned (.int .i64 E) ∧ ∃ ρ' s', DL w0 w' d ρ' s' ∧ (Disk.Calm s' ∧ s'.n = 192) := by
  by_cases c : len = 64
  · obtain ⟨h1, h2, h3, h4⟩ := rd_of_row hr (by omega)
    have hw := l_write n A cap (zs.take len) h (fun x hx => u8bo (h4 x hx)) (h1.chg h.ch (fun _ _ _ x => x)) (fun hp ad e x => by
      have q1 := h1.lt hp ad e
      have q2 := h.nw _ x
      omega)
    rw [h2] at hw
    refine hw.mono ?_
    rintro e w' ⟨rfl, _, ρ', hD, _⟩
    obtain ⟨a, b⟩ := calm_wr_any hs.1 n (zs.take len)
    exact ⟨_, rfl, ρ', _, hD, a, b.trans hs.2⟩
  · by_cases c0 : n < 0
    · refine (write_bad _ n _ w (.inl c0)).mono ?_
      rintro e w1 ⟨rfl, rfl⟩
      exact ⟨_, rfl, ρ, s, h, hs⟩
    · refine (write_big d ρ s n A len cap w h.at_ (by omega) (.inr c)).mono ?_
      rintro e w1 ⟨rfl, rfl⟩
      exact ⟨_, rfl, ρ, s, h, hs⟩
def SlB (w0 : World) (d : Nat) (i : Value) (wr : World) : Prop := ∃ (m : Nat) (ρ : Nat → Nat) (s : DSt), m ≤ 100 ∧ i = .int .i64 m ∧ DL w0 wr d ρ s ∧ (Disk.Calm s ∧ s.n = 192)
/-- whole numbers that came in -/
theorem row_cell {k : IntKind} {w : World} {a : Option Addr} {len cap : Nat} {zs : List Int} (h : IsRow k w a len cap zs) (m : Nat) (hm : m < len) : ∃ (ad : Addr) (x : Int), a = some ad ∧ w.cell? (ad.add m) = some (.int k x) ∧ (Lit.int k x).wf = true := by
  rcases h with ⟨rfl, rfl, _⟩ | ⟨ad, rfl, h1, h2, h3, h4, h5⟩
  · omega
  · refine ⟨ad, _, rfl, h4 m (by omega), ?_⟩
    refine h5 _ ?_
    have hz : m < zs.length := by omega
    rw [List.getD_eq_getElem?_getD, List.getElem?_eq_getElem hz]
    exact List.getElem_mem hz
set_option maxRecDepth 100000 in
set_option maxHeartbeats 4000000 in
theorem slotLoads (G : Option Addr) (lg cg : Nat) (zg : List Int) (A : Option Addr) (c : Nat) (ps : List (List Int)) (P : Option Addr) (lp cp : Nat) (X : Nat → PartV) (w : World) (hg : IsRow .u32 w G lg cg zg) (hb : ∀ p ∈ ps, ∀ x ∈ p, 0 ≤ x ∧ x ≤ 255) (h : RowsM w A ps) (hps : ps.length ≤ 140737488351232) (hX : IsParts w P lp cp X) : Calls Try.prog 3 #[.slice G lg cg, .slice A ps.length c, .slice P lp cp] w (True1 w) := by
  by_cases hd : 10 < lg ∨ (¬ 10 < lg ∧ 40 < lp)
  · clear hg hb h hX
    rcases hd with hd | ⟨hd, he⟩
    all_goals
      go_enter Try.func3, Try.ntmps3
      go_wp2_with fail
      refine (answers5 _).mono ?_
      rintro e w1 ⟨rfl, hC⟩
      have fin : True1 w (.returned (.bool true)) w1 := ⟨rfl, hC⟩
      clear hC
      go_wp2_with fail
      go_ret
      exact fin
  · have hn : lg ≤ 10 := by omega
    have hn2 : lp ≤ 40 := by omega
    have HR := Lib.hid (And.intro hg (And.intro h (And.intro hb hX)))
    clear hg h hb hX hd
    go_enter Try.func3, Try.ntmps3
    go_wp2_with fail
    refine (l_new 192 (by omega) (by omega) w).mono ?_
    rintro e w1 ⟨d, ρ, rfl, h1⟩
    have hB : SlB w d (.int .i64 0) w1 := ⟨0, ρ, _, by omega, rfl, h1, rfl, rfl⟩
    clear h1
    go_wp2_with fail
    go_loopw [8] (fun i wr => SlB w d i wr) (fun i wr => (100 - intOf i).toNat)
    case atStart => exact hB
    case round =>
      clear hB
      obtain ⟨m, ρ1, s, hm, rfl, hD, hS⟩ := hrel
      by_cases hlt : m < lg ∧ m < ps.length
      · obtain ⟨l1, l2⟩ := hlt
        obtain ⟨adg, g, rfl, hcg, hwg⟩ := row_cell HR.out.1 m l1
        obtain ⟨ad, B, cB, rfl, y1, y2, _, y3⟩ := HR.out.2.1 m l2
        have hmem : ps.getD m [] ∈ ps := by rw [List.getD_eq_getElem?_getD, List.getElem?_eq_getElem l2]; exact List.getElem_mem _
        have hby : Bytes (ps.getD m []) := fun x hx => by have := HR.out.2.2.1 _ hmem x hx; omega
        have x1 := hD.ch.cell hcg (fun x => x)
        have x2 := hD.ch.cell y1 (fun x => x)
        obtain ⟨g0, g1⟩ := u32b8 hwg
        have l1i : (m : Int) < (lg : Int) := by omega
        have l2i : (m : Int) < (ps.length : Int) := by omega
        generalize ps.getD m [] = p at *
        have dr := (Chg.refl NoB wr).drew
        by_cases hp : 960 < p.length
        · have hpd : decide (960 < (p.length : Int)) = true := decide_eq_true (by omega)
          have hpd2 : decide ((p.length : Int) ≤ 960) = false := decide_eq_false (by omega)
          have hsv := save_bad (some ⟨d, 0, none⟩) g B p.length cB wr.drew y2.1 (.inr hp)
          have fin : SlB w d (.int .i64 ((m : Int) + 1)) wr.drew := ⟨m + 1, ρ1, s, by omega, rfl, hD.keep dr, hS⟩
          have x2d := dr.cell x2 (fun x => x)
          clear hD hS y1 y2 y3 hmem hby hcg hwg hp dr
          go_wp2_with fail
          go_region_held3 (fun w' => w'.cell? (adg.add m) = some (.int .u32 g) ∧ w'.cell? (ad.add m) = some (.slice B p.length cB)) (first | go_keep | exact ⟨x1, x2⟩)
            (first | (go_at_call 14; ((with_reducible refine hsv.mono ?_); rintro e w2 ⟨rfl, rfl⟩)))
          clear hsv x1 x2
          go_wp2_with fail
          exact ⟨fin, by simp [intOf]; omega⟩
        · have hpd : decide (960 < (p.length : Int)) = false := decide_eq_false (by omega)
          have hpd2 : decide ((p.length : Int) ≤ 960) = true := decide_eq_true (by omega)
          have hs' : Says s (fun j => s.get (j : Int)) := ⟨hS.1, hS.2, fun _ => rfl⟩
          have hsv := save_in g B cB p (hD.keep dr) hs' g0 g1 (by omega) y2 y3 hby
          have y1h := Lib.hid (And.intro hcg y1)
          clear hD hS y1 y2 y3 hmem hby hcg hwg hp dr hs'
          go_wp2_with fail
          go_region_held3 (fun w' => w'.cell? (adg.add m) = some (.int .u32 g) ∧ w'.cell? (ad.add m) = some (.slice B p.length cB)) (first | go_keep | exact x4)
            (first | (go_at_call 14; ((with_reducible refine hsv.mono ?_); rintro e w2 ⟨rfl, s2, hs2, _, ρ2, h2, hC2, _⟩; have x4 := And.intro (h2.ch.cell y1h.out.1 (fun x => x)) (h2.ch.cell y1h.out.2 (fun x => x)))))
          have x2d := h2.ch.cell y1h.out.2 (fun x => x)
          have fin : SlB w d (.int .i64 ((m : Int) + 1)) w2 := ⟨m + 1, ρ2, s2, by omega, rfl, h2, hs2.1, hs2.2.1⟩
          clear hsv x1 x2 h2 hs2 hC2 x4
          go_wp2_with fail
          exact ⟨fin, by simp [intOf]; omega⟩
      · have hcs : (¬ m < lg) ∨ (m < lg ∧ ¬ m < ps.length) := by omega
        have hB2 : SlB w d (.int .i64 0) wr := ⟨0, ρ1, s, by omega, rfl, hD, hS⟩
        clear hD hS hlt hm
        rcases hcs with ha | ⟨ha, hb⟩
        all_goals
          go_wp2_with fail
          go_loopw [10] (fun i wr => SlB w d i wr) (fun i wr => (100 - intOf i).toNat)
          case atStart => exact hB2
          case round =>
            clear hB2
            obtain ⟨k, ρ2, s2, hk, rfl, hD2, hS2⟩ := hrel
            by_cases hlk : k < lp
            · obtain ⟨adP, rfl, hpp⟩ : ∃ adP, P = some adP ∧ PartAt w adP k (X k) := by
                rcases HR.out.2.2.2 with ⟨_, h0, _⟩ | ⟨ad, e, _, _, hall⟩
                · omega
                · exact ⟨ad, e, hall k hlk⟩
              have hlki : (k : Int) < (lp : Int) := by omega
              obtain ⟨z1, z2⟩ := hpp.two
              have x1 := hD2.ch.cell z1 (fun x => x)
              have x2 := hD2.ch.cell z2 (fun x => x)
              have dr := (Chg.refl NoB wr).drew
              have hw := write_in2 (hD2.keep dr) hS2 (X k).at_ (X k).A (X k).len (X k).cap (X k).zs hpp.2
              have ZZ := Lib.hid (And.intro z1 z2)
              clear hD2 hS2 hpp z1 z2 dr
              generalize X k = x at *
              obtain ⟨xa, xA, xl, xc, xz⟩ := x
              dsimp only at x1 x2 hw ZZ
              go_wp2_with fail
              go_region_held3 (fun w' => w'.cell? (adP.add (k * 2)) = some (.int .i64 xa) ∧ w'.cell? ⟨(adP.add (k * 2)).block, (adP.add (k * 2)).off + 1, none⟩ = some (.slice xA xl xc)) (first | go_keep | exact x4)
                (first | (go_at_call 15; ((with_reducible refine hw.mono ?_); rintro e w4 ⟨E, rfl, ρ4, s4, h4, hS4⟩; have x4 := And.intro (h4.ch.cell ZZ.out.1 (fun x => x)) (h4.ch.cell ZZ.out.2 (fun x => x)))))
              have fin : SlB w d (.int .i64 ((k : Int) + 1)) w4 := ⟨k + 1, ρ4, s4, by omega, rfl, h4, hS4⟩
              clear hw x1 x2 h4 hS4 x4 ZZ
              go_wp2_with fail
              exact ⟨fin, by simp [intOf]; omega⟩
            · have hs2 : Says s2 (fun j => s2.get (j : Int)) := ⟨hS2.1, hS2.2, fun _ => rfl⟩
              obtain ⟨f', hf'⟩ : ∃ f' : Nat → List Int, f' = fun j : Nat => s2.get (j : Int) := ⟨_, rfl⟩
              rw [← hf'] at hs2
              have hl6 := load_any hD2 hs2
              have hW := Lib.hid (own_lt_size hD2)
              have HS2 := Lib.hid hs2
              obtain ⟨G6, hGe⟩ : ∃ G, G = (loadOf f').1 := ⟨_, rfl⟩
              obtain ⟨bb, hbe⟩ : ∃ bb, bb = (loadOf f').2 := ⟨_, rfl⟩
              have HGB := Lib.hid (And.intro hGe hbe)
              clear hGe hbe hf' hs2 hD2 hS2 HR
              go_wp2_with fail
              refine hl6.mono ?_
              rintro e w7 ⟨vb, rfl, hC7, h7, hv7, q0, q1⟩
              rw [← HGB.out.1] at q0 q1 ⊢
              rw [← HGB.out.2] at hv7
              have hkb := hv7.kept hW.out
              have hal := all_law HS2.out.1 (by rw [HS2.out.2.1]; decide) h7
              have HKB := Lib.hid (And.intro hkb h7)
              clear hl6 hC7 h7 hv7 hkb
              go_wp2_with fail
              refine hal.mono ?_
              rintro e w8 ⟨v8, rfl, hC8, hS8, h8⟩
              obtain ⟨A8, c8, rfl, hc8, hI8⟩ := hS8.sin
              obtain ⟨ad8, _, _, rfl, _⟩ := hI8 0 (by decide)
              have hI8' : SInN w8 (some ad8) 100 f' := fun j hj => by
                obtain ⟨z1, z2, z3, z4, z5, z6⟩ := hI8 j hj
                exact ⟨z1, z2, z3, z4, z5, by rw [← HS2.out.2.2 j]; exact z6⟩
              have hrl := rload_any ad8 c8 f' w8 hc8 hI8'
              have HKB8 := Lib.hid (And.intro (HKB.out.1.chg hC8) h8)
              clear hal hC8 hS8 h8 hI8 hI8' HKB
              go_wp2_with fail
              refine hrl.mono ?_
              rintro e w9 ⟨v9, rfl, hC9, hv9, _, _⟩
              rw [← HGB.out.1]
              rw [← HGB.out.2] at hv9
              have hkb9 := HKB8.out.1.keep hC9
              have hch9 : Chg NoB w w9 := HKB8.out.2.ch.trans hC9 (fun _ _ x => x)
              have hv9k := hv9.kept (own_lt_size HKB8.out.2)
              obtain ⟨Ab, cb, rfl, _, hrb, _⟩ := hkb9
              obtain ⟨Ac, cc, rfl, _, hrc, _⟩ := hv9k
              have cm3 : ∀ w', Chg NoB w9 w' → Calls Try.prog 19 #[.slice Ab bb.length cb, .slice Ac bb.length cc] w' (RetB true w') := fun w' hc => by
                have := same_any Ab Ac cb cc bb bb w' (hrb.chg hc (fun _ _ _ x => x)) (hrc.chg hc (fun _ _ _ x => x))
                rwa [decide_eq_true rfl] at this
              have CM := Lib.hid (And.intro cm3 hch9)
              clear hrl hC9 hv9 hrb hrc cm3 hch9 HKB8 HGB HS2 hW
              go_wp2_with (first | ((with_reducible refine (answers5 _).mono ?_); rintro e w11 ⟨rfl, hC11⟩; have c3 := CM.out.1 w11 hC11) | ((with_reducible refine c3.mono ?_); rintro e w12 ⟨rfl, hC12⟩) | go_in)
              go_ret
              exact ⟨rfl, (CM.out.2.trans hC11 (fun _ _ x => x)).trans hC12 (fun _ _ x => x)⟩
theorem slotLoads_row (a0 : Option Addr) (len0 cap0 : Nat) (z0 : List Int) (a1 : Option Addr) (len1 cap1 : Nat) (z1 : List (List Int)) (a2 : Option Addr) (len2 cap2 : Nat) (z2 : Nat → PartV) (W : World) (w0 : IsRow .u32 W a0 len0 cap0 z0) (y0 : len0 * 4 ≤ 140737488351232) (y1 : len1 ≤ 140737488351232) (hz1 : z1.length = len1) (w1 : RowsM W a1 z1) (b1 : ∀ p ∈ z1, ∀ x ∈ p, 0 ≤ x ∧ x ≤ 255) (w2 : IsParts W a2 len2 cap2 z2) :
    Calls Try.prog 3 #[.slice a0 len0 cap0, .slice a1 len1 cap1, .slice a2 len2 cap2] W fun e w' => e = .returned (.bool true) ∧ Below W.heap.size W w' := by
  subst hz1
  exact (slotLoads a0 len0 cap0 z0 a1 cap1 z1 a2 len2 cap2 z2 W w0 b1 w1 y1 w2).mono fun _ _ h => h.row
end Go.Proofs.Ytmonkoclbcahiaa.Slot
