/- PoolBad. -/
import Derived.Test.YtlhlnkfmmklkbaaPoolAc
namespace Go.Proofs.Ytlhlnkfmmklkbaa.Pool
open Go.RowKit Go.Proofs.Ytlhlnkfmmklkbaa.Hp Go.Proofs.Ytlhlnkfmmklkbaa.Runs
set_option linter.unusedVariables false
set_option linter.unusedSimpArgs false
theorem bad_online {S : PS} {k : Nat} (h : S.U k = 6) (s z : Int) : (S.online s z []).U k = 6 := by
  unfold PS.online; split
  · show onU S.U _ [] 32 k = 6
    unfold onU; split
    · rw [if_pos (.inl h)]
    · exact h
  · exact h
theorem bad_offline {S : PS} {k : Nat} (h : S.U k = 6) (s : Int) : (S.offline s).U k = 6 := by
  unfold PS.offline; split
  · show offU S.U _ 32 k = 6
    unfold offU; rw [if_neg (fun x => x.2 h)]; exact h
  · exact h
theorem bad_free {S : PS} {k : Nat} (h : S.U k = 6) (f : Int) : (S.free f).U k = 6 := by
  unfold PS.free; split
  · rename_i hb
    show upd S.U f.toNat 1 k = 6
    unfold upd
    by_cases e : k = f.toNat
    · exfalso
      have := of_decide_eq_true hb
      unfold PS.use useD at this
      by_cases c : 0 ≤ f ∧ f < 1024
      · rw [if_pos c, ← e, h] at this; omega
      · rw [if_neg c] at this; omega
    · rw [if_neg e]; exact h
  · exact h
theorem bad_iso {S : PS} {k : Nat} (h : S.U k = 6) (s : Int) (on : Bool) : (S.iso s on).U k = 6 := by
  unfold PS.iso; split <;> exact h
/-- a frame that is bad is in no run that is given -/
theorem bad_alloc {S : PS} {k : Nat} (h : S.U k = 6) (u z : Int) (mov : Bool) : (S.alloc u z mov).U k = 6 ∧ (S.allocE u z mov = 0 → ∃ o : Nat, o ≤ 5 ∧ z = o ∧ (k < S.allocF u z mov ∨ S.allocF u z mov + 2 ^ o ≤ k) ∧ S.allocF u z mov ≤ 1024 ∧ 2 ^ o ≤ 32) := by
  by_cases ha : ArgOk u z
  · obtain ⟨o, rfl⟩ := Int.eq_ofNat_of_zero_le ha.2.2.1
    have ho : o ≤ 5 := by have := ha.2.2.2; omega
    cases hp : S.pick o mov with
    | none =>
      obtain ⟨h1, h2, h3⟩ := alloc_full ha hp
      rw [h3]
      exact ⟨h, fun e => by rw [h1] at e; omega⟩
    | some f =>
      obtain ⟨h1, h2, h3⟩ := alloc_some ha hp
      have hg : ∃ y, Good S.U S.Z S.I y (2 ^ o) f := by
        unfold PS.pick at hp
        rw [Int.toNat_natCast] at hp
        cases mov with
        | false => rw [if_neg (by decide)] at hp; exact ⟨2, (first_of_some hp).1⟩
        | true =>
          rw [if_pos rfl] at hp
          cases h3' : S.first 3 (2 ^ o) with
          | none => rw [h3'] at hp; exact ⟨2, (first_of_some hp).1⟩
          | some g =>
            rw [h3'] at hp
            have : g = f := Option.some.inj hp
            subst this
            exact ⟨3, (first_of_some h3').1⟩
      obtain ⟨y, hg⟩ := hg
      have out : k < f ∨ f + 2 ^ o ≤ k := by
        by_cases c : k < f
        · exact .inl c
        · by_cases d : f + 2 ^ o ≤ k
          · exact .inr d
          · have := hg.2.2.2.2 (k - f) (by omega)
            rw [show f + (k - f) = k from by omega, h] at this
            omega
      refine ⟨?_, fun _ => ⟨o, ho, rfl, by rw [h2]; exact out, by rw [h2]; exact Nat.le_trans (Nat.le_add_right _ _) hg.2.1, Nat.le_of_dvd (by omega) (pow_dvd o ho)⟩⟩
      rw [h3]
      show allocU S.U f (2 ^ (o : Int).toNat) u k = 6
      rw [Int.toNat_natCast]
      unfold allocU
      rw [if_neg (by omega)]; exact h
  · have E : S.allocE u z mov = 1 := if_neg ha
    refine ⟨?_, fun e => by rw [E] at e; omega⟩
    unfold PS.alloc; rw [E, if_neg (by decide)]; exact h
theorem shl_and (o : Nat) (ho : o ≤ 5) : wrap64 (2 ^ min (IntKind.u64.wrap (bits BinOp.and IntKind.i64 (o : Int) 7)).toNat 64) = ((2 ^ o : Nat) : Int) := by
  have ho' : o = 0 ∨ o = 1 ∨ o = 2 ∨ o = 3 ∨ o = 4 ∨ o = 5 := by omega
  rcases ho' with rfl | rfl | rfl | rfl | rfl | rfl <;> decide +kernel
def BdRel (w0 : World) (p b bi f n : Nat) (i : Value) (wr : World) : Prop := ∃ (k : Nat) (S : PS), k ≤ n ∧ i = .int .i64 k ∧ PL w0 wr p b bi S ∧ S.U f = 6
theorem l_alloc2 {w0 w : World} {p b bi : Nat} {S : PS} (u o : Int) (mov : Bool) (h : PL w0 w p b bi S) :
    Calls Try.prog 25 #[.pointer (some ⟨p, 0, none⟩), .int .i64 u, .int .i64 o, .bool mov] w fun e w' => e = .returned (.tuple #[.int .i64 (S.allocF u o mov), .int .i64 (S.allocE u o mov)]) ∧ PL w0 w' p b bi (S.alloc u o mov) ∧ Chg (fun i => i = p ∨ i = bi) w w' := by
  refine (alloc_any p b bi S.U S.Z S.I u o mov w h.at_).mono ?_
  intro e w1 hp
  rcases hp with ⟨g, rfl, rfl⟩ | ⟨g, f, ok, hs, rfl, h1, h2⟩
  · have E : S.allocE u o mov = 1 := if_neg g
    have F : S.allocF u o mov = 0 := if_neg g
    refine ⟨by rw [E, F]; rfl, ?_, Chg.refl _ _⟩
    unfold PS.alloc; rw [E, if_neg (by decide)]; exact h
  · obtain ⟨hp, hz⟩ := pick_of S o mov f ok hs
    have E : S.allocE u o mov = if ok then 0 else 4 := by
      unfold PS.allocE; rw [if_pos g, hp]
      cases ok <;> rfl
    have F : S.allocF u o mov = f := by
      unfold PS.allocF; rw [if_pos g, hp]
      cases ok with
      | false => exact (hz rfl).symm
      | true => rfl
    refine ⟨by rw [E, F], ?_, h2⟩
    unfold PS.alloc
    rw [E, F]
    cases ok with
    | false =>
      rw [if_neg (by decide)]
      rw [if_neg (by decide), allocU_zero] at h1
      exact h.go h1 h2
    | true =>
      rw [if_pos rfl]
      rw [if_pos rfl] at h1
      exact h.go h1 h2
theorem use_bad {S : PS} {f : Nat} (hf : f < 1024) (h : S.U f = 6) : S.use f = 6 := by
  unfold PS.use useD; rw [if_pos ⟨by omega, by omega⟩, Int.toNat_natCast]; exact h
theorem spoil_bad {f : Nat} (hf : f < 1024) : PS.new.spoilB f = true ∧ (PS.new.spoil f).U f = 6 := by
  have h : PS.new.spoilB f = true := decide_eq_true ⟨⟨by omega, by omega⟩, by show (0 : Int) ≠ 6; omega⟩
  refine ⟨h, ?_⟩
  unfold PS.spoil; rw [if_pos h, Int.toNat_natCast]
  show upd _ f 6 f = 6
  unfold upd; rw [if_pos rfl]
set_option maxRecDepth 100000 in
set_option maxHeartbeats 4000000 in
theorem poolBad (A : Option Addr) (len cap : Nat) (X : Nat → ActV) (n : Int) (w : World) (n0 : 0 ≤ n) (n1 : n ≤ 65535) (hl : (len : Int) ≤ 9223372036854775807) (h : IsActs w A len cap X) : Calls Try.prog 11 #[.slice A len cap, .int .u16 n] w (True1 w) := by
  by_cases big : 60 < len
  · go_enter Try.func11, Try.ntmps11
    go_wp2_with fail
    refine (answers_any w).mono ?_
    rintro e w1 ⟨rfl, hC⟩
    have fin : True1 w (.returned (.bool true)) w1 := ⟨rfl, hC⟩
    clear hC h
    go_wp2_with fail
    go_ret
    exact fin
  · have H := Lib.hid h
    clear h
    obtain ⟨f, hff⟩ := Int.eq_ofNat_of_zero_le (show 0 ≤ n % 1024 by omega)
    have hf : f < 1024 := by omega
    have HFF := Lib.hid hff
    clear hff
    go_enter Try.func11, Try.ntmps11
    go_wp2_with fail
    refine (l_new w).mono ?_
    rintro e w1 ⟨p, b, bi, rfl, h⟩
    go_wp2_with fail
    rw [HFF.out]
    have hs := l_spoil f h
    rw [(spoil_bad hf).1] at hs
    have SB := Lib.hid (spoil_bad hf).2
    clear h
    generalize PS.new.spoil f = S0 at *
    refine hs.mono ?_
    rintro e w2 ⟨rfl, h⟩
    clear hs
    go_wp2_with fail
    go_loopw [7] (fun i wr => BdRel w p b bi f len i wr) (fun i wr => (len - intOf i).toNat)
    case atStart => exact ⟨0, S0, by omega, rfl, h, SB.out⟩
    case round =>
      clear h SB
      obtain ⟨k, S, hk, rfl, h, hS⟩ := hrel
      by_cases hlt : k < len
      · rcases H.out with ⟨_, rfl, _⟩ | ⟨ad, rfl, q1, q2, hX⟩
        · omega
        have hx := hX k hlt
        have hx1 := hx.old h.ch
        obtain ⟨m0, m1, m2, m3, m4⟩ := hx1.five
        have nx : ∀ S' w', PL w w' p b bi S' → S'.U f = 6 → BdRel w p b bi f len (.int .i64 ((k : Int) + 1)) w' := fun S' w' h h2 => ⟨k + 1, S', by omega, rfl, h, h2⟩
        have NX := Lib.hid nx
        clear nx hx hx1 hX
        generalize X k = x at *
        obtain ⟨what, a, z, on, A, le, ca, zs⟩ := x
        have h1 := h.keep ((Chg.refl NoB wr).alloc (.cells #[.int .i64 what, .int .i64 a, .int .i64 z, .bool on, .slice A le ca] 61))
        have HS := Lib.hid hS
        have h0 := h
        clear h hS
        have hw : what = 0 ∨ what = 1 ∨ what = 2 ∨ what = 3 ∨ what = 5 ∨ ((what == 0) = false ∧ (what == 1) = false ∧ (what == 2) = false ∧ (what == 3) = false ∧ (what == 5) = false) := by
          by_cases e0 : what = 0
          · exact .inl e0
          by_cases e1 : what = 1
          · exact .inr (.inl e1)
          by_cases e2 : what = 2
          · exact .inr (.inr (.inl e2))
          by_cases e3 : what = 3
          · exact .inr (.inr (.inr (.inl e3)))
          by_cases e5 : what = 5
          · exact .inr (.inr (.inr (.inr (.inl e5))))
          exact .inr (.inr (.inr (.inr (.inr ⟨beq_eq_false_iff_ne.mpr e0, beq_eq_false_iff_ne.mpr e1, beq_eq_false_iff_ne.mpr e2, beq_eq_false_iff_ne.mpr e3, beq_eq_false_iff_ne.mpr e5⟩))))
        rcases hw with rfl | rfl | rfl | rfl | rfl | ⟨e0, e1, e2, e3, e5⟩
        · -- Online
          have hp := l_online0 a z h1
          have HBD := Lib.hid (bad_online HS.out a z)
          clear h1
          generalize S.online a z [] = S2 at *
          go_wp2_with fail
          refine hp.mono ?_
          rintro e w4 ⟨rfl, h⟩
          clear hp
          have hu := l_use f h
          rw [use_bad hf HBD.out] at hu
          have N := NX.out _ _ h HBD.out
          clear h NX
          go_wp2_with fail
          refine hu.mono ?_
          rintro e w5 ⟨rfl, rfl⟩
          clear hu
          go_wp2_with fail
          exact ⟨N, by simp [intOf]; omega⟩
        · -- Offline
          have hp := l_offline a h1
          have HBD := Lib.hid (bad_offline HS.out a)
          clear h1
          generalize S.offline a = S2 at *
          go_wp2_with fail
          refine hp.mono ?_
          rintro e w4 ⟨rfl, h⟩
          clear hp
          have hu := l_use f h
          rw [use_bad hf HBD.out] at hu
          have N := NX.out _ _ h HBD.out
          clear h NX
          go_wp2_with fail
          refine hu.mono ?_
          rintro e w5 ⟨rfl, rfl⟩
          clear hu
          go_wp2_with fail
          exact ⟨N, by simp [intOf]; omega⟩
        · -- Alloc
          have hp := l_alloc2 a z on h1
          have HBD := Lib.hid (bad_alloc HS.out a z on)
          have hbx : Blk (wr.alloc (.cells #[.int .i64 2, .int .i64 a, .int .i64 z, .bool on, .slice A le ca] 61)) wr.heap.size _ _ := bnew wr _
          have g1 : ¬ (wr.heap.size = p ∨ wr.heap.size = bi) := by
            have l2 := blt h0.at_.fr.xs
            obtain ⟨C, l3, _⟩ := h0.at_.st
            have l3 := blt l3
            omega
          have HX := Lib.hid (And.intro hbx g1)
          clear h1 hbx g1 h0
          generalize S.alloc a z on = S2 at *
          generalize S.allocF a z on = ff at *
          generalize S.allocE a z on = ee at *
          go_wp2_with fail
          refine hp.mono ?_
          rintro e w4 ⟨rfl, h, hc4⟩
          clear hp
          have hbx := hc4.blk HX.out.1 HX.out.2
          obtain ⟨b0, b1, b2, b3, b4⟩ := box5 hbx
          clear hbx HX hc4
          by_cases ez : ee = 0
          · obtain ⟨o, ho, rfl, hout, hfl, htl⟩ := HBD.out.2 ez
            subst ez
            rcases hout with ho1 | ho1
            · clear b0 b1 b2 b3 b4
              have hu := l_use f h
              rw [use_bad hf HBD.out.1] at hu
              have N := NX.out _ _ h HBD.out.1
              clear h NX
              go_wp2_with fail
              refine hu.mono ?_
              rintro e w5 ⟨rfl, rfl⟩
              clear hu
              go_wp2_with fail
              exact ⟨N, by simp [intOf]; omega⟩
            · have hE := shl_and o ho
              generalize 2 ^ o = t at *
              all_goals
                go_wp2_with fail
                have hu := l_use f h
                rw [use_bad hf HBD.out.1] at hu
                have N := NX.out _ _ h HBD.out.1
                clear h NX
                refine hu.mono ?_
                rintro e w5 ⟨rfl, rfl⟩
                clear hu
                go_wp2_with fail
                exact ⟨N, by simp [intOf]; omega⟩
          · have hne : (ee == 0) = false := beq_eq_false_iff_ne.mpr ez
            clear ez b0 b1 b2 b3 b4
            have hu := l_use f h
            rw [use_bad hf HBD.out.1] at hu
            have N := NX.out _ _ h HBD.out.1
            clear h NX
            go_wp2_with fail
            refine hu.mono ?_
            rintro e w5 ⟨rfl, rfl⟩
            clear hu
            go_wp2_with fail
            exact ⟨N, by simp [intOf]; omega⟩
        · -- Free
          have hp := l_free a h1
          have HBD := Lib.hid (bad_free HS.out a)
          clear h1
          generalize S.free a = S2 at *
          go_wp2_with fail
          refine hp.mono ?_
          rintro e w4 ⟨rfl, h⟩
          clear hp
          have hu := l_use f h
          rw [use_bad hf HBD.out] at hu
          have N := NX.out _ _ h HBD.out
          clear h NX
          go_wp2_with fail
          refine hu.mono ?_
          rintro e w5 ⟨rfl, rfl⟩
          clear hu
          go_wp2_with fail
          exact ⟨N, by simp [intOf]; omega⟩
        · -- Isolate
          have hp := l_iso a on h1
          have HBD := Lib.hid (bad_iso HS.out a on)
          clear h1
          generalize S.iso a on = S2 at *
          go_wp2_with fail
          refine hp.mono ?_
          rintro e w4 ⟨rfl, h⟩
          clear hp
          have hu := l_use f h
          rw [use_bad hf HBD.out] at hu
          have N := NX.out _ _ h HBD.out
          clear h NX
          go_wp2_with fail
          refine hu.mono ?_
          rintro e w5 ⟨rfl, rfl⟩
          clear hu
          go_wp2_with fail
          exact ⟨N, by simp [intOf]; omega⟩
        · -- none
          have h := h1
          clear h1
          have hu := l_use f h
          rw [use_bad hf HS.out] at hu
          have N := NX.out _ _ h HS.out
          clear h NX
          go_wp2_with fail
          refine hu.mono ?_
          rintro e w5 ⟨rfl, rfl⟩
          clear hu
          go_wp2_with fail
          exact ⟨N, by simp [intOf]; omega⟩
      · have hc := h.ch
        clear h hS
        go_wp2_with fail
        refine (answers_any wr).mono ?_
        rintro e w5 ⟨rfl, hC⟩
        have fin : True1 w (.returned (.bool true)) w5 := ⟨rfl, hc.trans hC (fun i _ hh => hh)⟩
        clear hC hc
        go_wp2_with fail
        go_ret
        exact fin
theorem u16_bounds {n : Int} (h : (Lit.int .u16 n).wf = true) : 0 ≤ n ∧ n ≤ 65535 := by
  simp only [Lit.wf, Bool.and_eq_true, decide_eq_true_eq] at h
  have e1 : IntKind.u16.min = 0 := rfl
  have e2 : IntKind.u16.max = 65535 := rfl
  omega
theorem poolBad_row (a0 : Option Addr) (len0 cap0 : Nat) (z0 : Nat → ActV) (a1 : Int) (W : World) (w0 : IsActs W a0 len0 cap0 z0) (w1 : (Lit.int .u16 a1).wf = true) :
    Calls Try.prog 11 #[.slice a0 len0 cap0, .int .u16 a1] W fun e w' => e = .returned (.bool true) ∧ Below W.heap.size W w' :=
  (poolBad a0 len0 cap0 z0 a1 W (u16_bounds w1).1 (u16_bounds w1).2 w0.lim w0).mono fun _ _ h => h.row
end Go.Proofs.Ytlhlnkfmmklkbaa.Pool
