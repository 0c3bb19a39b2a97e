/- FileApart. -/
import Derived.Test.YtlhlnkfmmklkbaaFileD
import Derived.Test.YtlhlnkfmmklkbaaLoose
namespace Go.Proofs.Ytlhlnkfmmklkbaa.File
open Go.RowKit Go.Proofs.Ytlhlnkfmmklkbaa.Hp Go.Proofs.Ytlhlnkfmmklkbaa.By Go.Proofs.Ytlhlnkfmmklkbaa.Disk
set_option linter.unusedVariables false
set_option linter.unusedSimpArgs false
/-- 64 bytes that begin with two -/
def pb (a b : Int) : List Int := ((List.replicate 64 (0 : Int)).set 0 a).set 1 b
theorem pb_len (a b : Int) : (pb a b).length = 64 := by unfold pb; rw [List.length_set, List.length_set, List.length_replicate]
theorem pb_set (a b x y : Int) : ((pb a b).set 0 x).set 1 y = pb x y := by
  unfold pb
  generalize List.replicate 64 (0 : Int) = l
  match l with
  | [] => rfl
  | [_] => rfl
  | _ :: _ :: _ => rfl
theorem pb_at (a b : Int) : (pb a b).getD 0 0 = a ∧ (pb a b).getD 1 0 = b := by
  unfold pb
  rw [show List.replicate 64 (0 : Int) = 0 :: 0 :: List.replicate 62 0 from rfl]
  exact ⟨rfl, rfl⟩
theorem pb_bytes {a b : Int} (ha : 0 ≤ a ∧ a ≤ 255) (hb : 0 ≤ b ∧ b ≤ 255) : ∀ x ∈ pb a b, 0 ≤ x ∧ x ≤ 255 := set_bytes (set_bytes (zero_bytes 64) 0 a ha) 1 b hb
theorem pb_zero : List.replicate 64 (0 : Int) = pb 0 0 := by rfl
/-- what the j-th sector from 96 on holds in the end -/
def cont (j : Nat) : List Int := if j < 64 then pb ((j / 16 : Nat) + 1) ((j % 16 : Nat)) else pb 99 ((j - 64 : Nat))
/-- m of them are written -/
def Ap (s : DSt) (m : Nat) : Prop := Pg s ∧ ∀ k, s.loose k = if 96 ≤ k ∧ k < 96 + m then some (cont (k - 96)) else none
theorem ap_new : Ap (DSt.new 192) 0 := ⟨⟨rfl, rfl⟩, fun k => by rw [if_neg (by omega)]; rfl⟩
theorem ap_put {s : DSt} {m : Nat} (h : Ap s m) (hm : m < 96) {n : Int} (hn : n = 96 + m) {l : List Int} (hl : l = cont m) (h64 : l.length = 64) : s.wrE n l.length = 0 ∧ Ap (s.wr n l) (m + 1) := by
  obtain ⟨a, b, c⟩ := pg_wr h.1 (n := n) (by omega) h64
  refine ⟨a, c, fun k => ?_⟩
  rw [b]
  show (if k = n.toNat then some l else s.loose k) = _
  by_cases e : k = n.toNat
  · rw [if_pos e, if_pos (by omega), hl]
    congr 2
    omega
  · rw [if_neg e, h.2]
    by_cases f : 96 ≤ k ∧ k < 96 + m
    · rw [if_pos f, if_pos (by omega)]
    · rw [if_neg f, if_neg (by omega)]
theorem ap_get {s : DSt} {m : Nat} (h : Ap s m) {j : Nat} (hj : j < m) {n : Int} (hn : n = 96 + j) : s.get n = cont j := by
  unfold DSt.get
  rw [h.2, if_pos (by omega)]
  show cont (n.toNat - 96) = _
  congr 1; omega
theorem ap_loose {s : DSt} (h : Ap s 96) : s.looseL.length = 96 ∧ s.looseL.getD 0 0 = 96 := by
  have e : s.looseL = ((List.range 192).filter (fun k => decide (96 ≤ k ∧ k < 192))).map (fun k : Nat => (k : Int)) := by
    unfold DSt.looseL
    rw [h.1.2]
    congr 1
    apply List.filter_congr
    intro k _
    rw [h.2]
    by_cases c : 96 ≤ k ∧ k < 96 + 96
    · rw [if_pos c]; simp; omega
    · rw [if_neg c]; simp; omega
  rw [e]
  constructor <;> decide
theorem pbcells {w : World} {g : Nat} {a b : Int} (h : Rd w .u8 (some ⟨g, 0, none⟩) (pb a b)) : w.cell? ⟨g, 0, none⟩ = some (.int .u8 a) ∧ w.cell? ⟨g, 1, none⟩ = some (.int .u8 b) := by
  obtain ⟨ad, e, hc⟩ := h.2 (by rw [pb_len]; omega)
  obtain rfl := Option.some.inj e
  have c0 := hc 0 (by rw [pb_len]; omega)
  have c1 := hc 1 (by rw [pb_len]; omega)
  rw [add0, (pb_at a b).1] at c0
  rw [add0, (pb_at a b).2] at c1
  exact ⟨c0, c1⟩
theorem first_of {w : World} {base : Nat} {v : Value} {l : List Int} {x : Int} (h : w.ownsRow base 3 1 v l.length (l.map (Value.int .i64))) (hl : l.length = 96) (hx : l.getD 0 0 = x) :
    ∃ g cap, v = .slice (some ⟨g, 0, none⟩) 96 cap ∧ w.cell? ⟨g, 0, none⟩ = some (.int .i64 x) := by
  rcases h.2 with ⟨rfl, h0⟩ | ⟨g, cap, cur, rfl, hb, hh, h1, h2, h3⟩
  · omega
  · refine ⟨g, cap, by rw [hl], ?_⟩
    have hc := h.cells (g := g) rfl 0 (.int .i64 x) (by
      match l, hl with
      | a :: t, _ => subst hx; rfl)
    rwa [add0] at hc
theorem parts (n : Int) (n0 : 0 ≤ n) (n1 : n ≤ 65535) : ∃ F P K : Nat, F < 4 ∧ P < 16 ∧ K < 32 ∧ n % 4 = (F : Int) ∧ wrap64 ((IntKind.u16.wrap (n.tdiv 4)).tmod 16) = (P : Int) ∧ wrap64 ((IntKind.u16.wrap (n.tdiv 64)).tmod 32) = (K : Int) := by
  have hw : ∀ x : Int, 0 ≤ x → x ≤ 65535 → IntKind.u16.wrap x = x := fun x h0 h1 => by
    show x % 65536 = x
    omega
  refine ⟨n.toNat % 4, n.toNat / 4 % 16, n.toNat / 64 % 32, by omega, by omega, by omega, by omega, ?_, ?_⟩
  · rw [Int.tdiv_eq_ediv_of_nonneg n0, hw _ (by omega) (by omega), Int.tmod_eq_emod_of_nonneg (by omega)]
    unfold wrap64
    omega
  · rw [Int.tdiv_eq_ediv_of_nonneg n0, hw _ (by omega) (by omega), Int.tmod_eq_emod_of_nonneg (by omega)]
    unfold wrap64
    omega
theorem first_at {w : World} {base g cap : Nat} {l : List Int} {x : Int} (h : w.ownsRow base 3 1 (.slice (some ⟨g, 0, none⟩) 96 cap) l.length (l.map (Value.int .i64))) (hl : l.length = 96) (hx : l.getD 0 0 = x) :
    w.cell? ⟨g, 0, none⟩ = some (.int .i64 x) := by
  have hc := h.cells (g := g) rfl 0 (.int .i64 x) (by
    match l, hl with
    | a :: t, _ => subst hx; rfl)
  rwa [add0] at hc
def ABuf (w0 w : World) (d g : Nat) (m : Nat) : Prop := ∃ ρ s a b, DL w0 w d ρ s ∧ Ap s m ∧ Buf w g (pb a b) ∧ ρ g = 0
def A1 (w0 : World) (d g : Nat) (i : Value) (wr : World) : Prop := ∃ f : Nat, f ≤ 4 ∧ i = .int .i64 f ∧ ABuf w0 wr d g (16 * f)
def A2 (w0 : World) (d g f : Nat) (i : Value) (wr : World) : Prop := ∃ p : Nat, p ≤ 16 ∧ i = .int .i64 p ∧ ABuf w0 wr d g (16 * f + p)
def A3 (w0 : World) (d g : Nat) (i : Value) (wr : World) : Prop := ∃ k : Nat, k ≤ 32 ∧ i = .int .i64 k ∧ ABuf w0 wr d g (64 + k)
/-- one sector more is written, of the buffer as it is -/
theorem abuf_go {w0 w w' : World} {d g m : Nat} {ρ : Nat → Nat} {s : DSt} {n : Int} {a b : Int} {e : Ending} (hD : DL w0 w d ρ s) (hA : Ap s m) (hB : Buf w g (pb a b)) (hz : ρ g = 0) (hm : m < 96) (hn : n = 96 + m) (hl : pb a b = cont m) (hp : WritePost w d ρ s n (pb a b) e w') :
    e = .returned (.int .i64 0) ∧ ABuf w0 w' d g (m + 1) := by
  obtain ⟨rfl, hc, ρ', h1, hr⟩ := hD.write hp
  obtain ⟨x1, x2⟩ := ap_put hA hm hn hl (pb_len a b)
  exact ⟨by rw [x1], ρ', _, a, b, h1, x2, hB.chg hc (fun x => x hz), hr g hB.lt hz⟩
set_option maxRecDepth 100000 in
set_option maxHeartbeats 4000000 in
theorem fileApart (n : Int) (w : World) (n0 : 0 ≤ n) (n1 : n ≤ 65535) : Calls Try.prog 13 #[.int .u16 n] w (True1 w) := by
  have hmk := make64
  go_enter Try.func13, Try.ntmps13
  go_wp2_with fail
  refine (l_new 192 (by omega) (by omega) w).mono ?_
  rintro e w1 ⟨d, ρ, rfl, h⟩
  have B0 := Buf.new w1 64 w1.heap.size rfl
  rw [pb_zero] at B0
  have hz : ρ w1.heap.size = 0 := by
    obtain ⟨_, _, _, _, _, _, _, hp⟩ := h.at_
    exact hp.rz _ (Nat.le_refl _)
  have hA : ABuf w (w1.alloc (.cells (Array.replicate 64 (.int .u8 0)) 5)) d w1.heap.size 0 := ⟨ρ, _, 0, 0, h.keep ((Chg.refl NoB w1).alloc _), ap_new, B0, hz⟩
  have hsz := h.ch.size
  clear h B0 hz
  generalize hZ : Array.replicate 64 (Value.int .u8 0) = Z at *
  clear hZ
  go_wp2_with fail
  generalize w1.alloc (.cells Z 5) = w2 at *
  generalize w1.heap.size = g at *
  clear hmk
  go_loopw [5] (fun i wr => A1 w d g i wr) (fun i wr => (4 - intOf i).toNat)
  case atStart => exact ⟨0, by omega, rfl, hA⟩
  case round =>
    clear hA
    obtain ⟨f, hf, rfl, hA⟩ := hrel
    by_cases hlt : f < 4
    · have hlt2 : decide ((f : Int) < 4) = true := by simp; omega
      have H := Lib.hid hA
      clear hA
      go_wp2_with fail
      go_loopw [6] (fun i wr => A2 w d g f i wr) (fun i wr => (16 - intOf i).toNat)
      case atStart => exact ⟨0, by omega, rfl, H.out⟩
      case round =>
        clear H
        obtain ⟨p, hp, rfl, ρ1, s, a, b, hD, hAp, hB, hz⟩ := hrel
        by_cases hlp : p < 16
        · have c0 := hB.cell 0 (by rw [pb_len]; omega)
          have c1 := hB.cell 1 (by rw [pb_len]; omega)
          have fz := hB.frz
          rw [(pb_at a b).1] at c0
          rw [(pb_at a b).2] at c1
          have hB2 := (hB.set 0 ((f : Int) + 1)).set 1 (p : Int)
          rw [pb_set] at hB2
          have hc2 : Chg (· = g) wr ((wr.setCell ⟨g, 0, none⟩ (.int .u8 ((f : Int) + 1))).setCell ⟨g, 1, none⟩ (.int .u8 p)) :=
            Chg.set (S := (· = g)) (Chg.set (S := (· = g)) (Chg.refl _ wr) (p := ⟨g, 0, none⟩) (.inl rfl) _) (p := ⟨g, 1, none⟩) (.inl rfl) _
          have hD2 := hD.side hc2 hz hsz
          have hw := fwrite_any d ρ1 s (some ⟨g, 0, none⟩) 64 (pb ((f : Int) + 1) p) _ hD2.at_ (pb_bytes (by omega) (by omega)) (hB2.rd (by rw [pb_len]; omega)) (fun _ ad e x => x (by have := Option.some.inj e; subst this; exact hz)) f p
          rw [pb_len] at hw
          have hpn : pageN f p = 96 + ((16 * f + p : Nat) : Int) := by rw [page_in (by omega)]; omega
          have hco : pb ((f : Int) + 1) p = cont (16 * f + p) := by
            unfold cont
            rw [if_pos (by omega), show (16 * f + p) / 16 = f by omega, show (16 * f + p) % 16 = p by omega]
          have fin : ∀ e w', WritePost ((wr.setCell ⟨g, 0, none⟩ (.int .u8 ((f : Int) + 1))).setCell ⟨g, 1, none⟩ (.int .u8 p)) d ρ1 s (pageN f p) (pb ((f : Int) + 1) p) e w' → e = .returned (.int .i64 0) ∧ A2 w d g f (.int .i64 ((p : Int) + 1)) w' := by
            intro e w' hq
            obtain ⟨h1, h2⟩ := abuf_go hD2 hAp hB2 hz (by omega) hpn hco hq
            exact ⟨h1, p + 1, by omega, rfl, h2⟩
          have FI := Lib.hid fin
          clear fin hco hpn hD2 hc2 hB2 hD hAp hB
          go_wp2_with fail
          refine hw.mono ?_
          intro e w' hq
          obtain ⟨rfl, h2⟩ := FI.out e w' hq
          clear hq FI hw
          go_wp2_with fail
          exact ⟨h2, by simp [intOf]; omega⟩
        · obtain rfl : p = 16 := by omega
          have nx : A1 w d g (.int .i64 ((f : Int) + 1)) wr := ⟨f + 1, by omega, rfl, ρ1, s, a, b, hD, by rw [show 16 * (f + 1) = 16 * f + 16 by omega]; exact hAp, hB, hz⟩
          clear hD hAp hB hz
          go_wp2_with fail
          exact ⟨nx, by simp [intOf]; omega⟩
    · have hlt2 : decide ((f : Int) < 4) = false := by simp; omega
      have hA : ABuf w wr d g (64 + 0) := by rw [show 64 + 0 = 16 * f by omega]; exact hA
      have H := Lib.hid hA
      clear hA
      go_wp2_with fail
      go_loopw [7] (fun i wr => A3 w d g i wr) (fun i wr => (32 - intOf i).toNat)
      case atStart => exact ⟨0, by omega, rfl, H.out⟩
      case round =>
        clear H
        obtain ⟨p, hp, rfl, ρ1, s, a, b, hD, hAp, hB, hz⟩ := hrel
        by_cases hlp : p < 32
        · have c0 := hB.cell 0 (by rw [pb_len]; omega)
          have c1 := hB.cell 1 (by rw [pb_len]; omega)
          have fz := hB.frz
          rw [(pb_at a b).1] at c0
          rw [(pb_at a b).2] at c1
          have hB2 := (hB.set 0 (99 : Int)).set 1 (p : Int)
          rw [pb_set] at hB2
          have hc2 : Chg (· = g) wr ((wr.setCell ⟨g, 0, none⟩ (.int .u8 99)).setCell ⟨g, 1, none⟩ (.int .u8 p)) :=
            Chg.set (S := (· = g)) (Chg.set (S := (· = g)) (Chg.refl _ wr) (p := ⟨g, 0, none⟩) (.inl rfl) _) (p := ⟨g, 1, none⟩) (.inl rfl) _
          have hD2 := hD.side hc2 hz hsz
          have hw := fwriteslot_any d ρ1 s (some ⟨g, 0, none⟩) 64 (pb 99 p) _ hD2.at_ (pb_bytes (by omega) (by omega)) (hB2.rd (by rw [pb_len]; omega)) (fun _ ad e x => x (by have := Option.some.inj e; subst this; exact hz)) p
          rw [pb_len] at hw
          have hpn : slotN p = 96 + ((64 + p : Nat) : Int) := by rw [slot_in (by omega)]; omega
          have hco : pb 99 p = cont (64 + p) := by
            unfold cont
            rw [if_neg (by omega), show 64 + p - 64 = p by omega]
          have fin : ∀ e w', WritePost ((wr.setCell ⟨g, 0, none⟩ (.int .u8 99)).setCell ⟨g, 1, none⟩ (.int .u8 p)) d ρ1 s (slotN p) (pb 99 p) e w' → e = .returned (.int .i64 0) ∧ A3 w d g (.int .i64 ((p : Int) + 1)) w' := by
            intro e w' hq
            obtain ⟨h1, h2⟩ := abuf_go hD2 hAp hB2 hz (by omega) hpn hco hq
            exact ⟨h1, p + 1, by omega, rfl, h2⟩
          have FI := Lib.hid fin
          clear fin hco hpn hD2 hc2 hB2 hD hAp hB
          go_wp2_with fail
          refine hw.mono ?_
          intro e w' hq
          obtain ⟨rfl, h2⟩ := FI.out e w' hq
          clear hq FI hw
          go_wp2_with fail
          exact ⟨h2, by simp [intOf]; omega⟩
        · obtain rfl : p = 32 := by omega
          obtain ⟨F, P, K, hF, hP, hK, e1, e2, e3⟩ := parts n n0 n1
          have HD := Lib.hid (And.intro hD hAp)
          clear hD hAp hB hA
          go_wp2_with fail
          rw [e1, e2, e3]
          clear e1 e2 e3
          have rx := fread_any d ρ1 s F P wr HD.out.1.at_
          refine rx.mono ?_
          clear rx
          intro e w4 hp
          have gp : pageN F P = 96 + ((16 * F + P : Nat) : Int) := by rw [page_in (by omega)]; omega
          have gs : slotN K = 96 + ((64 + K : Nat) : Int) := by rw [slot_in (by omega)]; omega
          obtain ⟨x, rfl, hD, hc, hrx⟩ := read_pg HD.out.1 hp HD.out.2.1 (by rw [gp]; omega)
          rw [ap_get HD.out.2 (by omega) gp] at hrx
          rw [show cont (16 * F + P) = pb ((F : Int) + 1) P by unfold cont; rw [if_pos (by omega), show (16 * F + P) / 16 = F by omega, show (16 * F + P) % 16 = P by omega]] at hrx
          clear hp hc gp
          have HA := Lib.hid HD.out.2
          have HG := Lib.hid gs
          clear HD gs
          have ry := freadslot_any d ρ1 s K w4 hD.at_
          have HD := Lib.hid (And.intro hD hrx)
          clear hD hrx
          go_wp2_with fail
          refine ry.mono ?_
          clear ry
          intro e w5 hp
          obtain ⟨y, rfl, hD, hc, hry⟩ := read_pg HD.out.1 hp HA.out.1 (by rw [HG.out]; omega)
          rw [ap_get HA.out (by omega) HG.out] at hry
          rw [show cont (64 + K) = pb 99 K by unfold cont; rw [if_neg (by omega), show 64 + K - 64 = K by omega]] at hry
          have hrx := HD.out.2.keep hc
          have rl := loose_any d ρ1 s w5 hD.at_
          clear hp hc HG HD
          have HD := Lib.hid (And.intro hD (And.intro hrx hry))
          clear hD hrx hry
          go_wp2_with fail
          refine rl.mono ?_
          clear rl
          rintro e w6 ⟨l, rfl, hl, hC⟩
          obtain ⟨gl, cl, rfl, cz⟩ := first_of hl (ap_loose HA.out).1 (ap_loose HA.out).2
          have hD := HD.out.1.keep hC
          obtain ⟨gx, cx, rfl, hx⟩ := (HD.out.2.1.keep0 hC).rd
          obtain ⟨gy, cy, rfl, hy⟩ := (HD.out.2.2.keep0 hC).rd
          rw [pb_len, pb_len]
          rw [pb_len] at *
          have HX := Lib.hid (And.intro hD.ch (And.intro hx (And.intro hy hl)))
          have HE := Lib.hid (ap_loose HA.out)
          clear HD HA hC hl hx hy hD cz
          go_wp2_with fail
          refine (answers_any _).mono ?_
          rintro e w7 ⟨rfl, hC⟩
          obtain ⟨c1, c2⟩ := pbcells (HX.out.2.1.chg hC (fun _ _ _ x => x))
          obtain ⟨c3, c4⟩ := pbcells (HX.out.2.2.1.chg hC (fun _ _ _ x => x))
          have hl := own_chg HX.out.2.2.2 hC (fun _ _ x => x)
          have c5 := first_at hl HE.out.1 HE.out.2
          have hch := HX.out.1.trans hC (fun _ _ x => x)
          clear HX HE hC hl
          go_wp2_with fail
          go_ret
          exact ⟨rfl, hch⟩
theorem u16b {n : Int} (h : (Lit.int .u16 n).wf = true) : 0 ≤ n ∧ n ≤ 65535 := by
  simp only [Lit.wf, Bool.and_eq_true, decide_eq_true_eq] at h
  have e1 : IntKind.u16.min = 0 := rfl
  have e2 : IntKind.u16.max = 65535 := rfl
  omega
theorem fileApart_row (a0 : Int) (W : World) (w0 : (Lit.int .u16 a0).wf = true) :
    Calls Try.prog 13 #[.int .u16 a0] W fun e w' => e = .returned (.bool true) ∧ Below W.heap.size W w' :=
  (fileApart a0 W (u16b w0).1 (u16b w0).2).mono fun _ _ h => h.row
end Go.Proofs.Ytlhlnkfmmklkbaa.File
