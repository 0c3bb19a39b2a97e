/- Chapter 5: SlotTurns. -/
import Derived.Test.YtmonkoclbcahiaaSlotG
import Derived.Test.YtmonkoclbcahiaaSame
namespace Go.Proofs.Ytmonkoclbcahiaa.Slot
open Go.RowKit Go.Proofs.Ytmonkoclbcahiaa.Hp Go.Proofs.Ytmonkoclbcahiaa.By Go.Proofs.Ytmonkoclbcahiaa.Disk Go.Proofs.Ytmonkoclbcahiaa.Word Go.Proofs.Ytmonkoclbcahiaa.WordP Go.Proofs.Ytmonkoclbcahiaa.Log
set_option linter.unusedVariables false
set_option linter.unusedSimpArgs false
/-- bytes that came in, saved -/
theorem save_in {w0 w : World} {d : Nat} {ρ0 : Nat → Nat} {s : DSt} {f : Nat → List Int} (gen : Int) (A : Option Addr) (c : Nat) (l : List Int) (h : DL w0 w d ρ0 s) (hs : Says s f) (g0 : 0 ≤ gen) (g1 : gen < 4294967296) (hl : l.length ≤ 960) (hr : Rd w0 .u8 A l) (hcap : l.length ≤ c) (hb : Bytes l) :
    Calls Try.prog 14 #[.pointer (some ⟨d, 0, none⟩), .int .u32 gen, .slice A l.length c] w fun e w' => e = .returned (.int .i64 0) ∧ ∃ s', Says s' (savedF f gen l) ∧ s'.looseL = [] ∧ Stp w0 w d ρ0 w' s' :=
  save_says gen A c l h hs g0 g1 hl (hr.chg h.ch (fun _ _ _ x => x)) (fun hp ad e x => by
    have q1 := hr.lt hp ad e
    have q2 := h.nw _ x
    omega) hcap hb
theorem load_saved {f : Nat → List Int} {g : Int} {l : List Int} (g0 : 0 ≤ g) (g1 : g < 4294967296) (hl : l.length ≤ 960) (w : Nat) (h2 : w < 2) (hw : (w : Int) = g % 2) (h3 : ∀ q, oneOf f (1 - w) = some q → q.1 < g) : loadOf (savedF f g l) = (g, l) :=
  load_two w h2 g0 (one_saved f g l g0 g1 hl w hw) (fun q hq => by
    rw [one_other f g l hl (1 - w) (by omega) (by omega)] at hq
    exact h3 q hq)
theorem turns (gen : Int) (a b c : List Int) (t : Bool) (g0 : 0 ≤ gen) (g1 : gen ≤ 2147483648) (ha : a.length ≤ 960) (hb : b.length ≤ 960) (hc : c.length ≤ 960) (F : Nat → List Int)
    (hF : F = if t then savedF (savedF (fun _ => List.replicate 64 0) (gen + 1) b) gen a else savedF (savedF (fun _ => List.replicate 64 0) gen a) (gen + 1) b) :
    loadOf F = (gen + 1, b) ∧ loadOf (savedF F (gen + 1) c) = (gen + 1, c) := by
  obtain ⟨w, hw2, hw⟩ : ∃ w : Nat, w < 2 ∧ (w : Int) = (gen + 1) % 2 := ⟨((gen + 1) % 2).toNat, by omega, by omega⟩
  have hv : ((1 - w : Nat) : Int) = gen % 2 := by omega
  have o0 : oneOf F (1 - w) = some (gen, a) ∧ oneOf F w = some (gen + 1, b) := by
    rw [hF]
    cases t with
    | true =>
      refine ⟨one_saved _ gen a g0 (by omega) ha (1 - w) hv, ?_⟩
      show oneOf (savedF (savedF (fun _ => List.replicate 64 0) (gen + 1) b) gen a) w = _
      rw [one_other _ gen a ha w hw2 (by omega)]
      exact one_saved _ (gen + 1) b (by omega) (by omega) hb w hw
    | false =>
      refine ⟨?_, one_saved _ (gen + 1) b (by omega) (by omega) hb w hw⟩
      show oneOf (savedF (savedF (fun _ => List.replicate 64 0) gen a) (gen + 1) b) (1 - w) = _
      rw [one_other _ (gen + 1) b hb (1 - w) (by omega) (by omega)]
      exact one_saved _ gen a g0 (by omega) ha (1 - w) hv
  have lt : ∀ q, oneOf F (1 - w) = some q → q.1 < gen + 1 := fun q hq => by
    rw [o0.1] at hq
    obtain rfl := Option.some.inj hq
    show gen < gen + 1
    omega
  exact ⟨load_two w hw2 (by omega) o0.2 lt, load_saved (by omega) (by omega) hc w hw2 hw lt⟩
/-- bytes that lie apart from a disk -/
def KeptB (w : World) (ρ : Nat → Nat) (v : Value) (b : List Int) : Prop := ∃ A c, v = .slice A b.length c ∧ b.length ≤ c ∧ Rd w .u8 A b ∧ Bytes b ∧ (0 < b.length → Off A (Own ρ))
theorem OwnB.kept {base : Nat} {w : World} {ρ : Nat → Nat} {v : Value} {b : List Int} (h : OwnB base w v b) (hρ : ∀ i, Own ρ i → i < base) : KeptB w ρ v b := by
  obtain ⟨A, c, rfl, h0, h1, h2, h3, _⟩ := h
  exact ⟨A, c, rfl, h0, h1, h3, fun _ ad e x => h2 ad e (hρ _ x)⟩
theorem KeptB.chg {w w' : World} {ρ : Nat → Nat} {v : Value} {b : List Int} (h : KeptB w ρ v b) (hc : Chg (Own ρ) w w') : KeptB w' ρ v b := by
  obtain ⟨A, c, rfl, h0, h1, h2, h3⟩ := h
  exact ⟨A, c, rfl, h0, h1.chg hc h3, h2, h3⟩
theorem KeptB.keep {w w' : World} {ρ : Nat → Nat} {v : Value} {b : List Int} (h : KeptB w ρ v b) (hc : Chg NoB w w') : KeptB w' ρ v b := by
  obtain ⟨A, c, rfl, h0, h1, h2, h3⟩ := h
  exact ⟨A, c, rfl, h0, h1.chg hc (fun _ _ _ x => x), h2, h3⟩
theorem KeptB.stp {w w' : World} {ρ ρ' : Nat → Nat} {v : Value} {b : List Int} (h : KeptB w ρ v b) (hc : Chg (Own ρ) w w') (hz : ∀ i, i < w.heap.size → ρ i = 0 → ρ' i = 0) : KeptB w' ρ' v b := by
  obtain ⟨A, c, rfl, h0, h1, h2, h3⟩ := h
  refine ⟨A, c, rfl, h0, h1.chg hc h3, h2, fun hp ad e x => ?_⟩
  have := hz ad.block (h1.lt hp ad e) (by
    by_cases cc : ρ ad.block = 0
    · exact cc
    · exact absurd cc (h3 hp ad e))
  exact x this
theorem kept_same {w : World} {ρ : Nat → Nat} {v : Value} {b : List Int} {A : Option Addr} {c : Nat} (h : KeptB w ρ v b) (hr : Rd w .u8 A b) : ∃ A1 c1, v = .slice A1 b.length c1 ∧ ∀ w', Chg NoB w w' → Calls Try.prog 19 #[.slice A1 b.length c1, .slice A b.length c] w' (RetB true w') := by
  obtain ⟨A1, c1, rfl, _, h1, _⟩ := h
  refine ⟨A1, c1, rfl, fun w' hc => ?_⟩
  have := same_any A1 A c1 c b b w' (h1.chg hc (fun _ _ _ x => x)) (hr.chg hc (fun _ _ _ x => x))
  rwa [decide_eq_true rfl] at this
set_option maxRecDepth 100000 in
set_option maxHeartbeats 2000000 in
theorem slotTurns (gen : Int) (A B C : Option Addr) (ca cb cc : Nat) (a b c : List Int) (t : Bool) (w : World) (g0 : 0 ≤ gen) (g1 : gen < 4294967296) (ra : Rd w .u8 A a) (rb : Rd w .u8 B b) (rc : Rd w .u8 C c) (pa : a.length ≤ ca) (pb : b.length ≤ cb) (pc : c.length ≤ cc) (ba : Bytes a) (bb : Bytes b) (bc : Bytes c) :
    Calls Try.prog 4 #[.int .u32 gen, .slice A a.length ca, .slice B b.length cb, .slice C c.length cc, .bool t] w (True1 w) := by
  by_cases hd : 960 < a.length ∨ (¬ 960 < a.length ∧ 960 < b.length) ∨ (¬ 960 < a.length ∧ ¬ 960 < b.length ∧ 960 < c.length) ∨ (¬ 960 < a.length ∧ ¬ 960 < b.length ∧ ¬ 960 < c.length ∧ 2147483648 < gen)
  · clear ra rb rc ba bb bc pa pb pc
    rcases hd with hd | ⟨hd, he⟩ | ⟨hd, he, hf⟩ | ⟨hd, he, hf, hg⟩
    all_goals
      go_enter Try.func4, Try.ntmps4
      go_wp2_with fail
      refine (answers5 _).mono ?_
      rintro e w1 ⟨rfl, hC⟩
      have fin : True1 w (.returned (.bool true)) w1 := ⟨rfl, hC⟩
      clear hC
      go_wp2_with fail
      go_ret
      exact fin
  · have la : a.length ≤ 960 := by omega
    have lb : b.length ≤ 960 := by omega
    have lc : c.length ≤ 960 := by omega
    have g2 : gen ≤ 2147483648 := by omega
    have HR := Lib.hid (And.intro ra (And.intro rb (And.intro rc (And.intro pa (And.intro pb (And.intro pc (And.intro ba (And.intro bb bc))))))))
    have T := Lib.hid (turns gen a b c t g0 g2 la lb lc)
    clear ra rb rc pa pb pc ba bb bc hd
    cases t with
    | true =>
      go_enter Try.func4, Try.ntmps4
      go_wp2_with fail
      refine (l_new 192 (by omega) (by omega) w).mono ?_
      rintro e w1 ⟨d, ρ, rfl, h1⟩
      have s1 := save_in (gen + 1) B cb b h1 says_new (by omega) (by omega) lb HR.out.2.1 HR.out.2.2.2.2.1 HR.out.2.2.2.2.2.2.2.1
      clear h1
      go_wp2_with fail
      refine s1.mono ?_
      rintro e w2 ⟨rfl, st2, hs2, _, ρ2, h2, _, _⟩
      have s2 := save_in gen A ca a h2 hs2 (by omega) (by omega) la HR.out.1 HR.out.2.2.2.1 HR.out.2.2.2.2.2.2.1
      clear s1 h2 hs2
      go_wp2_with fail
      refine s2.mono ?_
      rintro e w3 ⟨rfl, st3, hs3, _, ρ3, h3, _, _⟩
      have hT := T.out _ rfl
      rw [if_pos trivial] at hT
      clear s2
      have hl3 := load_any h3 hs3
      have HT := Lib.hid (And.intro hT (And.intro hs3 (own_lt_size h3)))
      clear hs3 h3 hT
      generalize hF : (savedF (savedF _ _ _) _ _) = F at *
      clear hF T
      go_wp2_with fail
      refine hl3.mono ?_
      rintro e w4 ⟨x, rfl, hC4, h4, hx, _, _⟩
      rw [HT.out.1.1] at hx ⊢
      have s4 := save_in (gen + 1) C cc c h4 HT.out.2.1 (by omega) (by omega) lc HR.out.2.2.1 HR.out.2.2.2.2.2.1 HR.out.2.2.2.2.2.2.2.2
      have HX := Lib.hid (And.intro (hx.kept HT.out.2.2) hC4)
      clear hl3 hC4 h4 hx
      go_wp2_with fail
      refine s4.mono ?_
      rintro e w5 ⟨rfl, st5, hs5, _, ρ5, h5, hC5, hz5⟩
      have hl5 := load_any h5 hs5
      have hx5 := HX.out.1.stp hC5 hz5
      have HX5 := Lib.hid (And.intro hx5 (And.intro (own_lt_size h5) h5.ch))
      clear s4 hs5 h5 hC5 hz5 HX hx5
      go_wp2_with fail
      refine hl5.mono ?_
      rintro e w6 ⟨y, rfl, hC6, h6, hy, _, _⟩
      rw [HT.out.1.2] at hy ⊢
      have hx6 := HX5.out.1.chg hC6
      have hy6 := hy.kept HX5.out.2.1
      have hch := h6.ch
      obtain ⟨A1, c1, rfl, sm1⟩ := kept_same (c := cb) hx6 (HR.out.2.1.chg hch (fun _ _ _ x => x))
      obtain ⟨A2, c2, rfl, sm2⟩ := kept_same (c := cc) hy6 (HR.out.2.2.1.chg hch (fun _ _ _ x => x))
      clear hl5 hC6 h6 hy hx6 hy6 HX5 HT HR
      go_wp2_with (first | ((with_reducible refine (answers5 _).mono ?_); rintro e w7 ⟨rfl, hC7⟩; have q1 := sm1 w7 hC7) | ((with_reducible refine q1.mono ?_); rintro e w8 ⟨rfl, hC8⟩; have q2 := sm2 w8 (hC7.trans hC8 (fun _ _ x => x))) | ((with_reducible refine q2.mono ?_); rintro e w9 ⟨rfl, hC9⟩) | go_in)
      go_ret
      exact ⟨rfl, ((hch.trans hC7 (fun _ _ x => x)).trans hC8 (fun _ _ x => x)).trans hC9 (fun _ _ x => x)⟩
    | false =>
      go_enter Try.func4, Try.ntmps4
      go_wp2_with fail
      refine (l_new 192 (by omega) (by omega) w).mono ?_
      rintro e w1 ⟨d, ρ, rfl, h1⟩
      have s1 := save_in gen A ca a h1 says_new (by omega) (by omega) la HR.out.1 HR.out.2.2.2.1 HR.out.2.2.2.2.2.2.1
      clear h1
      go_wp2_with fail
      refine s1.mono ?_
      rintro e w2 ⟨rfl, st2, hs2, _, ρ2, h2, _, _⟩
      have s2 := save_in (gen + 1) B cb b h2 hs2 (by omega) (by omega) lb HR.out.2.1 HR.out.2.2.2.2.1 HR.out.2.2.2.2.2.2.2.1
      clear s1 h2 hs2
      go_wp2_with fail
      refine s2.mono ?_
      rintro e w3 ⟨rfl, st3, hs3, _, ρ3, h3, _, _⟩
      have hT := T.out _ rfl
      rw [if_neg (by decide)] at hT
      clear s2
      have hl3 := load_any h3 hs3
      have HT := Lib.hid (And.intro hT (And.intro hs3 (own_lt_size h3)))
      clear hs3 h3 hT
      generalize hF : (savedF (savedF _ _ _) _ _) = F at *
      clear hF T
      go_wp2_with fail
      refine hl3.mono ?_
      rintro e w4 ⟨x, rfl, hC4, h4, hx, _, _⟩
      rw [HT.out.1.1] at hx ⊢
      have s4 := save_in (gen + 1) C cc c h4 HT.out.2.1 (by omega) (by omega) lc HR.out.2.2.1 HR.out.2.2.2.2.2.1 HR.out.2.2.2.2.2.2.2.2
      have HX := Lib.hid (And.intro (hx.kept HT.out.2.2) hC4)
      clear hl3 hC4 h4 hx
      go_wp2_with fail
      refine s4.mono ?_
      rintro e w5 ⟨rfl, st5, hs5, _, ρ5, h5, hC5, hz5⟩
      have hl5 := load_any h5 hs5
      have hx5 := HX.out.1.stp hC5 hz5
      have HX5 := Lib.hid (And.intro hx5 (And.intro (own_lt_size h5) h5.ch))
      clear s4 hs5 h5 hC5 hz5 HX hx5
      go_wp2_with fail
      refine hl5.mono ?_
      rintro e w6 ⟨y, rfl, hC6, h6, hy, _, _⟩
      rw [HT.out.1.2] at hy ⊢
      have hx6 := HX5.out.1.chg hC6
      have hy6 := hy.kept HX5.out.2.1
      have hch := h6.ch
      obtain ⟨A1, c1, rfl, sm1⟩ := kept_same (c := cb) hx6 (HR.out.2.1.chg hch (fun _ _ _ x => x))
      obtain ⟨A2, c2, rfl, sm2⟩ := kept_same (c := cc) hy6 (HR.out.2.2.1.chg hch (fun _ _ _ x => x))
      clear hl5 hC6 h6 hy hx6 hy6 HX5 HT HR
      go_wp2_with (first | ((with_reducible refine (answers5 _).mono ?_); rintro e w7 ⟨rfl, hC7⟩; have q1 := sm1 w7 hC7) | ((with_reducible refine q1.mono ?_); rintro e w8 ⟨rfl, hC8⟩; have q2 := sm2 w8 (hC7.trans hC8 (fun _ _ x => x))) | ((with_reducible refine q2.mono ?_); rintro e w9 ⟨rfl, hC9⟩) | go_in)
      go_ret
      exact ⟨rfl, ((hch.trans hC7 (fun _ _ x => x)).trans hC8 (fun _ _ x => x)).trans hC9 (fun _ _ x => x)⟩
theorem u32b8 {n : Int} (h : (Lit.int .u32 n).wf = true) : 0 ≤ n ∧ n < 4294967296 := by
  simp only [Lit.wf, Bool.and_eq_true, decide_eq_true_eq] at h
  have e1 : IntKind.u32.min = 0 := rfl
  have e2 : IntKind.u32.max = 4294967295 := rfl
  omega
theorem slotTurns_row (a0 : Int) (a1 : Option Addr) (len1 cap1 : Nat) (z1 : List Int) (a2 : Option Addr) (len2 cap2 : Nat) (z2 : List Int) (a3 : Option Addr) (len3 cap3 : Nat) (z3 : List Int) (a4 : Bool) (W : World) (w0 : (Lit.int .u32 a0).wf = true) (w1 : IsRow .u8 W a1 len1 cap1 z1) (y1 : len1 * 1 ≤ 140737488351232) (w2 : IsRow .u8 W a2 len2 cap2 z2) (y2 : len2 * 1 ≤ 140737488351232) (w3 : IsRow .u8 W a3 len3 cap3 z3) (y3 : len3 * 1 ≤ 140737488351232) :
    Calls Try.prog 4 #[.int .u32 a0, .slice a1 len1 cap1, .slice a2 len2 cap2, .slice a3 len3 cap3, .bool a4] W fun e w' => e = .returned (.bool true) ∧ Below W.heap.size W w' := by
  obtain ⟨h1, h2, h3, h4⟩ := rd_of_row w1 (by omega)
  obtain ⟨k1, k2, k3, k4⟩ := rd_of_row w2 (by omega)
  obtain ⟨j1, j2, j3, j4⟩ := rd_of_row w3 (by omega)
  have := slotTurns a0 a1 a2 a3 cap1 cap2 cap3 (z1.take len1) (z2.take len2) (z3.take len3) a4 W (u32b8 w0).1 (u32b8 w0).2 h1 k1 j1 (by rw [h2]; exact h3) (by rw [k2]; exact k3) (by rw [j2]; exact j3) (fun x hx => by have := u8b4 (h4 x hx); omega) (fun x hx => by have := u8b4 (k4 x hx); omega) (fun x hx => by have := u8b4 (j4 x hx); omega)
  rw [h2, k2, j2] at this
  exact this.mono fun _ _ h => h.row
end Go.Proofs.Ytmonkoclbcahiaa.Slot
