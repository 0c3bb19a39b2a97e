/- Chapter 7: SetState, AddBad, over whatever add does. -/
import Derived.Test.YtolojkfpokmdkaaRRRegI
import Derived.Deep.RegionHeldLaw
import Derived.Deep.RegionHeld3
namespace Go.Proofs.YtolojkfpokmdkaaRR.Reg
open Go.RowKit Go.Proofs.YtolojkfpokmdkaaRR.Hp Go.Proofs.YtolojkfpokmdkaaRR.By Go.Proofs.YtolojkfpokmdkaaRR.Disk Go.Proofs.YtolojkfpokmdkaaRR.Word Go.Proofs.YtolojkfpokmdkaaRR.WordP Go.Proofs.YtolojkfpokmdkaaRR.Log Go.Proofs.YtolojkfpokmdkaaRR.Slot Go.Proofs.YtolojkfpokmdkaaRR.Jour
set_option linter.unusedVariables false
set_option linter.unusedSimpArgs false
section
variable {P : Program} {ops : Array Oper} {o : Oper} {a : Go.Act} {K : Go.Act → World → Prop} {Q : Exit → Go.Act → World → Prop} {E : Prop}
/-- an append of another slice's elements, at a step of a region that draws -/
theorem step_append_src {w : World} (base : Nat) (hgd : o.guard = none) (s x : Operand) (t e : TypeId) (ho : o.op = .call { callee := .builtin .append, args := #[s, x], argTypes := #[t, t] })
    (z : Value) (bytes : Nat) (ht : P.underlying t = some (.slice e)) (hinfo : (P.info? e).map (fun i => (i.zero, i.size, i.bytes)) = some (some z, 1, bytes)) (hz : z.cells.size = 1)
    (v : Value) (n : Nat) (ys : List Value) (hs : a.eval s = v) (hbase : base ≤ w.heap.size) (hown : w.ownsRow base e 1 v n ys) (xs : List Value) (sp : Option Addr) (c : Nat) (hx : a.eval x = .slice sp xs.length c) (hnil : sp = none → c = 0)
    (hsrc : 0 < xs.length → ∃ ad, sp = some ad ∧ ∀ j v, xs[j]? = some v → w.cell? (ad.add j) = some v) (hu : ∀ u ∈ xs, u.oneCell' = true)
    (h1 : n + xs.length ≤ 9223372036854775807) (h2 : (n + xs.length) * bytes ≤ 140737488355328)
    (h : ∀ v' w', w'.ownsRow base e 1 v' (n + xs.length) (ys ++ xs) → Chg (fun i => v.ownBlock = some i) w w' → K (a.put o.dst v') w') :
    if Region.wanted o (yielded ops a.tmps) = true then Oper.wp P o a w K Q else E := by
  have hw : Region.wanted o (yielded ops a.tmps) = true := by simp [Region.wanted, hgd]
  rw [if_pos hw]
  obtain ⟨i0, hi, hz0, hz1, hz2⟩ := info_parts hinfo
  cases sp with
  | none =>
    have hx0 : xs = [] := by
      by_cases c : 0 < xs.length
      · obtain ⟨ad, hh, _⟩ := hsrc c; cases hh
      · exact List.eq_nil_of_length_eq_zero (by omega)
    subst hx0
    obtain rfl := hnil rfl
    have hrun := run_append_owned_none (P := P) (w := w) base t o.type e i0 1 ht hi v n ys hown
    unfold Oper.wp execOp
    have hx' : a.eval x = .slice none 0 0 := hx
    simp only [ho, resolve, invoke, builtin, Sem.run_bind, Sem.run_pure, Result.andThen_ok, List.map_toArray, List.map_cons, List.map_nil, hs, hx', hrun]
    exact h v w (by simpa using hown) (Chg.refl _ _)
  | some ad =>
    have hsrc2 : ∀ j u, xs[j]? = some u → w.cell? (ad.add j) = some u := by
      intro j u hj
      obtain ⟨ad', hh, hc⟩ := hsrc (by have := (List.getElem?_eq_some_iff.1 hj).1; omega)
      obtain rfl := Option.some.inj hh
      exact hc j u hj
    refine wp_append_own w s x t ho base e i0 z 1 bytes ht hi hz0 hz1 hz2 hz (by decide) v n ys hs hown ad xs.length c xs hx (by simp) hsrc2 hu (by unfold maxLen; omega) h2 hbase ?_
    intro v' w' hown' hgrow _
    exact h v' w' hown' (Chg.of_grownBy hgrow (fun j hj => .inl hj))
end
theorem chg_new (w0 : World) {W w' : World} {g l c : Nat} (h : Chg NoB w0 W) (hg : w0.heap.size ≤ g) (hc : Chg (fun i => (Value.slice (some ⟨g, 0, none⟩) l c).ownBlock = some i) W w') : Chg NoB w0 w' :=
  h.trans hc (fun i hi x => by simp [Value.ownBlock] at x; omega)
theorem lit_own (w : World) (base : Nat) (hb : base ≤ w.heap.size) (u : Value) : (w.alloc (.cells #[u] 5)).ownsRow base 5 1 (.slice (some ⟨w.heap.size, 0, none⟩) 1 1) 1 [u] := World.ownsRow_lit w #[u] 1 hb (by unfold maxLen; omega) rfl
/-- what add does, whatever the record -/
def Adds (w : World) (r j bm : Nat) (ρ : Nat → Nat) (Q : Rec → Int → World → Prop) : Prop :=
  ∀ y : Rec, y.ok → ∀ w1 A c, Chg NoB w w1 → Rd w1 .u8 A y.bytes → Off A (AX ρ r j bm) → y.bytes.length ≤ c →
    Calls Try.prog 27 #[.pointer (some ⟨r, 0, none⟩), .slice A y.bytes.length c] w1 fun e w' => ∃ E, e = .returned (.int .i64 E) ∧ Q y E w' ∧ Chg (AX ρ r j bm) w1 w'
theorem RegAt.off {w0 w : World} {r j bm d : Nat} {ρ : Nat → Nat} {s : DSt} {gen : Int} {n : Nat} {x : RSt} {K : Nat} (h : RegAt w0 w r j bm d ρ s gen n x K) (ad : Addr) (hg : w.heap.size ≤ ad.block) : Off (some ad) (AX ρ r j bm) := fun b e q => by
  obtain rfl := Option.some.inj e
  obtain ⟨⟨h1, h2, h3⟩, h4⟩ := h.lt
  rcases q with q | q | q | q
  · have := h4 _ q; omega
  · omega
  · omega
  · omega
def SetTo (w : World) (x : RSt) (s n : Int) (Q : Rec → Int → World → Prop) (e : Ending) (w' : World) : Prop :=
  ∃ E, e = .returned (.int .i64 E) ∧ ((¬ stOk s n ∧ E = 1 ∧ Chg NoB w w') ∨ (stOk s n ∧ x.st s.toNat = n ∧ E = 0 ∧ Chg NoB w w') ∨ (stOk s n ∧ x.st s.toNat ≠ n ∧ Q (.state s.toNat n.toNat) E w'))
set_option maxRecDepth 100000 in
set_option maxHeartbeats 4000000 in
theorem setst_any {w0 w : World} {r j bm d : Nat} {ρ : Nat → Nat} {s : DSt} {gen : Int} {n : Nat} {x : RSt} {K : Nat} {Q : Rec → Int → World → Prop} (h : RegAt w0 w r j bm d ρ s gen n x K) (hA : Adds w r j bm ρ Q) (sc st : Int) :
    Calls Try.prog 10 #[.pointer (some ⟨r, 0, none⟩), .int .i64 sc, .int .i64 st] w (SetTo w x sc st Q) := by
  have hs := state_any sc st w
  have hlt := h.lt
  by_cases ho : stOk sc st
  · rw [decide_eq_true ho] at hs
    obtain ⟨s', rfl⟩ : ∃ s' : Nat, sc = (s' : Int) := ⟨sc.toNat, by have := ho.1.1; omega⟩
    obtain ⟨t', rfl⟩ : ∃ t' : Nat, st = (t' : Int) := ⟨st.toNat, by have := ho.2.1; omega⟩
    have hs32 : s' < 32 := by have := ho.1.2; omega
    have ht4 : t' < 4 := by have := ho.2.2; omega
    have bs : 0 ≤ (s' : Int) ∧ (s' : Int) < 32 := ⟨by omega, by omega⟩
    have bt : 0 ≤ (t' : Int) ∧ (t' : Int) < 4 := ⟨by omega, by omega⟩
    obtain ⟨c1, _⟩ := h.rm.rb.at_ hs32
    by_cases he : x.st s' = (t' : Int)
    · have e1 : (x.st s' == (t' : Int)) = true := beq_iff_eq.mpr he
      have F := Lib.hid (show SetTo w x (s' : Int) (t' : Int) Q (.returned (.int .i64 0)) w from ⟨0, rfl, .inr (.inl ⟨ho, by rw [Int.toNat_natCast]; exact he, rfl, Chg.refl _ _⟩)⟩)
      clear h hA hlt ho he
      generalize x.st s' = z at *
      go_enter Try.func10, Try.ntmps10
      go_wp2_with fail
      refine hs.mono ?_
      rintro e w1 ⟨rfl, rfl⟩
      clear hs
      go_wp2_with fail
      go_ret
      exact F.out
    · have e1 : (x.st s' == (t' : Int)) = false := beq_eq_false_iff_ne.mpr he
      have hC : Chg NoB w (w.alloc (.cells #[.int .u8 2, .int .u8 (s' : Int), .int .u8 (t' : Int)] 5)) := (Chg.refl _ _).alloc _
      have hb : Blk (w.alloc (.cells #[.int .u8 2, .int .u8 (s' : Int), .int .u8 (t' : Int)] 5)) w.heap.size #[.int .u8 2, .int .u8 (s' : Int), .int .u8 (t' : Int)] 5 := bnew w _
      have hcl := hA (.state s' t') ⟨hs32, ht4⟩ _ (some ⟨w.heap.size, 0, none⟩) 3 hC ⟨by show 3 ≤ _; omega, fun _ => ⟨_, rfl, fun k hk => by
        have hk3 : k < 3 := hk
        rw [add0, bcell hb]
        match k, hk3 with
        | 0, _ => rfl
        | 1, _ => rfl
        | 2, _ => rfl⟩⟩ (h.off _ (Nat.le_refl _)) (Nat.le_refl _)
      rw [show (Rec.state s' t').bytes.length = 3 from rfl] at hcl
      have F := Lib.hid (show ∀ E w', Q (.state s' t') E w' → SetTo w x (s' : Int) (t' : Int) Q (.returned (.int .i64 E)) w' from fun E w' hq => ⟨E, rfl, .inr (.inr ⟨ho, by rw [Int.toNat_natCast]; exact he, by rw [Int.toNat_natCast, Int.toNat_natCast]; exact hq⟩)⟩)
      clear h hA hlt ho he hC hb
      generalize x.st s' = z at *
      go_enter Try.func10, Try.ntmps10
      go_wp2_with fail
      refine hs.mono ?_
      rintro e w1 ⟨rfl, rfl⟩
      clear hs
      go_wp2_with fail
      refine hcl.mono ?_
      rintro e w2 ⟨E, rfl, hq, _⟩
      have F' := Lib.hid (F.out E w2 hq)
      clear hcl F hq
      go_wp2_with fail
      go_ret
      exact F'.out
  · rw [decide_eq_false ho] at hs
    have F := Lib.hid (show SetTo w x sc st Q (.returned (.int .i64 1)) w from ⟨1, rfl, .inl ⟨ho, rfl, Chg.refl _ _⟩⟩)
    clear h hA hlt ho
    go_enter Try.func10, Try.ntmps10
    go_wp2_with fail
    refine hs.mono ?_
    rintro e w1 ⟨rfl, rfl⟩
    clear hs
    go_wp2_with fail
    go_ret
    exact F.out
/-- what is new, as frames -/
def newL (x : RSt) (zs : List Int) : List Nat := (zs.map Int.toNat).filter (fun f => !x.bad f)
theorem new_eq {M : Int → Option Value} {x : RSt} {K : Nat} (hM : MapOk M x.bad K) : ∀ zs : List Int, zs.any (fun z => !isFr z) = false → newF M zs = natI (newL x zs) ∧ ∀ f, f ∈ newL x zs → f < 1024
  | [], _ => ⟨rfl, fun f hf => by cases hf⟩
  | z :: zs, h => by
    rw [List.any_cons, Bool.or_eq_false_iff] at h
    obtain ⟨h1, h2⟩ := h
    obtain ⟨i1, i2⟩ := new_eq hM zs h2
    have hz : 0 ≤ z ∧ z < 1024 := by
      unfold isFr at h1
      simpa using h1
    obtain ⟨f, rfl⟩ : ∃ f : Nat, z = (f : Int) := ⟨z.toNat, by omega⟩
    have hf : f < 1024 := by omega
    have e : (M (f : Int)).isSome = x.bad f := by
      cases hb : x.bad f with
      | true => have := hM.2 f hf hb; cases hm : M (f : Int) with
        | none => exact absurd hm this
        | some v => rfl
      | false => rw [hM.none_ hb]; rfl
    unfold newF newL at *
    rw [List.filter_cons, List.map_cons, List.filter_cons, Int.toNat_natCast, e]
    cases hb : x.bad f with
    | true => exact ⟨by simp only [Bool.not_true]; exact i1, by simp only [Bool.not_true]; exact i2⟩
    | false =>
      refine ⟨by simp only [Bool.not_false, if_true]; show _ :: List.filter _ _ = _; rw [i1]; rfl, fun g hg => ?_⟩
      simp only [Bool.not_false, if_true] at hg
      rcases List.mem_cons.mp hg with rfl | hg
      · exact hf
      · exact i2 g hg
theorem newL_len (x : RSt) (zs : List Int) : (newL x zs).length ≤ zs.length := by
  unfold newL
  have := List.length_filter_le (fun f => !x.bad f) (zs.map Int.toNat)
  rwa [List.length_map] at this
theorem cloneI_any (A : Option Addr) (c : Nat) (zs : List Int) (w : World) (h : Rd w .i64 A zs) (hnil : A = none → c = 0 ∧ zs = []) (hl : zs.length ≤ 100000) : Calls Try.prog 26 #[.slice A zs.length c] w (CloneI zs w) := by
  cases A with
  | none =>
    obtain ⟨rfl, rfl⟩ := hnil rfl
    exact cloneI_nil w
  | some ad => exact cloneI_some ad zs c w h hl
def AddTo (w : World) (x : RSt) (zs : List Int) (Q : Rec → Int → World → Prop) (e : Ending) (w' : World) : Prop :=
  ∃ E, e = .returned (.int .i64 E) ∧ (((20 < zs.length ∨ zs.any (fun z => !isFr z) = true) ∧ E = 1 ∧ Chg NoB w w') ∨ ((zs.length ≤ 20 ∧ zs.any (fun z => !isFr z) = false) ∧ newL x zs = [] ∧ E = 0 ∧ Chg NoB w w') ∨ ((zs.length ≤ 20 ∧ zs.any (fun z => !isFr z) = false) ∧ newL x zs ≠ [] ∧ Q (.bads (newL x zs)) E w'))
set_option maxRecDepth 100000 in
set_option maxHeartbeats 4000000 in
theorem addbad_any {w0 w : World} {r j bm d : Nat} {ρ : Nat → Nat} {s : DSt} {gen : Int} {n : Nat} {x : RSt} {K : Nat} {Q : Rec → Int → World → Prop} (h : RegAt w0 w r j bm d ρ s gen n x K) (hA : Adds w r j bm ρ Q) (A : Option Addr) (c : Nat) (zs : List Int) (hr : Rd w .i64 A zs) (hnil : A = none → c = 0 ∧ zs = []) :
    Calls Try.prog 9 #[.pointer (some ⟨r, 0, none⟩), .slice A zs.length c] w (AddTo w x zs Q) := by
  obtain ⟨W, hW⟩ : ∃ W, W = w.alloc (.cells #[.pointer (some ⟨r, 0, none⟩)] 22) := ⟨_, rfl⟩
  have hCW : Chg NoB w W := by rw [hW]; exact (Chg.refl _ _).alloc _
  have hB : Blk W w.heap.size #[.pointer (some ⟨r, 0, none⟩)] 22 := by rw [hW]; exact bnew w _
  have b0 : W.cell? ⟨w.heap.size, 0, none⟩ = some (.pointer (some ⟨r, 0, none⟩)) := by rw [bcell hB]; rfl
  have hrW := hr.chg hCW (fun _ _ _ x => x)
  obtain ⟨m, hm⟩ : ∃ m, m = zs.length := ⟨_, rfl⟩
  have hlt := h.lt
  by_cases hl : 20 < zs.length
  · have d1 : decide (20 < (m : Int)) = true := decide_eq_true (by omega)
    have d2 : decide (20 < m) = true := decide_eq_true (by omega)
    have F := Lib.hid (show AddTo w x zs Q (.returned (.int .i64 1)) W from ⟨1, rfl, .inl ⟨.inl hl, rfl, hCW⟩⟩)
    rw [← hm]
    clear h hA hr hrW hCW hl hm hlt hB
    go_enter Try.func9, Try.ntmps9
    go_upto_region 1 with fail
    rw [← hW]
    clear hW
    go_wp2_with fail
    go_ret
    exact F.out
  · have d1 : decide (20 < (m : Int)) = false := decide_eq_false (by omega)
    have d2 : decide (20 < m) = false := decide_eq_false (by omega)
    have hct := cont_any A c zs W hrW
    rw [← hm] at hct
    cases hany : zs.any (fun z => !isFr z) with
    | true =>
      rw [hany] at hct
      have F := Lib.hid (show ∀ w', Chg NoB W w' → AddTo w x zs Q (.returned (.int .i64 1)) w' from fun w' hc => ⟨1, rfl, .inl ⟨.inr hany, rfl, hCW.trans hc (fun _ _ x => x)⟩⟩)
      rw [← hm]
      clear h hA hr hrW hCW hl hm hlt hB hany
      go_enter Try.func9, Try.ntmps9
      go_upto_region 1 with fail
      rw [← hW]
      clear hW
      go_wp2_with fail
      refine hct.mono ?_
      rintro e w1 ⟨rfl, hC1⟩
      have F' := Lib.hid (F.out w1 hC1)
      clear F hct hC1
      go_wp2_with fail
      go_ret
      exact F'.out
    | false =>
      rw [hany] at hct
      obtain ⟨M, hMa, hMo⟩ := h.rm.mp
      obtain ⟨hne, hfr⟩ := new_eq hMo zs hany
      have hnl := newL_len x zs
      have hRW := h.rm.rb.chg hCW (fun e => e)
      have hMW := hMa.chg hCW (fun e => e)
      have hWsz : W.heap.size = w.heap.size + 1 := by rw [hW]; simp
      have F := Lib.hid (show (newL x zs = [] → ∀ w', Chg NoB w w' → AddTo w x zs Q (.returned (.int .i64 0)) w') ∧ (newL x zs ≠ [] → ∀ E w', Q (.bads (newL x zs)) E w' → AddTo w x zs Q (.returned (.int .i64 E)) w') from ⟨fun e w' hc => ⟨0, rfl, .inr (.inl ⟨⟨by omega, hany⟩, e, rfl, hc⟩)⟩, fun e E w' hq => ⟨E, rfl, .inr (.inr ⟨⟨by omega, hany⟩, e, hq⟩)⟩⟩)
      generalize newL x zs = l at *
      obtain ⟨P, hP⟩ : ∃ P, P = AddTo w x zs Q := ⟨_, rfl⟩
      rw [← hP] at F ⊢
      rw [← hm]
      have hofs : ∀ ad : Addr, w.heap.size ≤ ad.block → Off (some ad) (AX ρ r j bm) := fun ad hg => h.off ad hg
      have HH := Lib.hid (And.intro hRW (And.intro hMW (And.intro hMo (And.intro hB (And.intro hCW (And.intro hlt (And.intro hWsz (And.intro hA (And.intro hfr (And.intro hrW (And.intro hnil (And.intro hne (And.intro hofs (And.intro hl (And.intro hnl hm)))))))))))))))
      clear h hA hr hrW hCW hl hm hlt hB hany hRW hMW hMa hMo hWsz hne hfr hnl hnil hP hofs
      go_enter Try.func9, Try.ntmps9
      go_upto_region 1 with fail
      rw [← hW]
      clear hW
      go_wp2_with fail
      refine hct.mono ?_
      rintro e w1 ⟨rfl, hC1⟩
      have hcl := cloneI_any A c zs w1 (HH.out.2.2.2.2.2.2.2.2.2.1.chg hC1 (fun _ _ _ x => x)) HH.out.2.2.2.2.2.2.2.2.2.2.1 (by have := HH.out.2.2.2.2.2.2.2.2.2.2.2.2.2.1; omega)
      rw [← HH.out.2.2.2.2.2.2.2.2.2.2.2.2.2.2.2] at hcl
      clear hct b0
      go_wp2_with fail
      refine hcl.mono ?_
      rintro e w2 ⟨v2, rfl, hown, hC2⟩
      have hC12 := hC1.trans hC2 (fun _ _ x => x)
      obtain ⟨hRW, hMW, hMo, hB, hCW, hlt, hWsz, hA, hfr, hrW, hnil, hne, hofs, hl, hnl, hm⟩ := HH.out
      have hz1 := hC1.size
      have hdl := delI_any hown (hC12.blk hB (fun e => e)) (hRW.chg hC12 (fun e => e)) (hMW.chg hC12 (fun e => e)) hMo ⟨by omega, by omega, by omega⟩ (by omega)
      rw [hne] at hdl
      obtain ⟨A2, c2, rfl⟩ := own_formI hown
      clear hcl hown
      go_wp2_with fail
      refine hdl.mono ?_
      rintro e w3 ⟨v3, rfl, hown3, hC3⟩
      have hC13 : Chg NoB W w3 := hC12.trans hC3 (fun i hi (x : w1.heap.size ≤ i) => by omega)
      have hB3 := hC13.blk hB (fun e => e)
      have b3 : w3.cell? ⟨w.heap.size, 0, none⟩ = some (.pointer (some ⟨r, 0, none⟩)) := by rw [bcell hB3]; rfl
      obtain ⟨A3, c3, rfl, hl3, hc3, hr3, ho3⟩ := own_rd hown3 (by rw [natI_len]; omega)
      rw [natI_len] at *
      have hCw3 := hCW.trans hC13 (fun _ _ x => x)
      by_cases hl0 : l = []
      · have F' := Lib.hid (F.out.1 hl0 w3 hCw3)
        have dl : ((l.length : Int) == 0) = true := by rw [hl0]; rfl
        have dl2 : (l.length == 0) = true := by rw [hl0]; rfl
        clear hl0
        clear hdl HH F hRW hMW hMo hB hCW hlt hWsz hA hfr hrW hnil hne hofs hl hnl hm hz1 hC12 hC1 hC2 hown3 hC3 hC13 hB3 hl3 hc3 hr3 ho3 hCw3
        go_wp2_with fail
        exact F'.out
      · have lpos : 0 < l.length := List.length_pos_iff.mpr hl0
        have dl : ((l.length : Int) == 0) = false := by rw [beq_eq_false_iff_ne]; omega
        have dl2 : (l.length == 0) = false := by rw [beq_eq_false_iff_ne]; omega
        have hok : (Rec.bads l).ok := ⟨⟨lpos, by omega⟩, hfr⟩
        obtain ⟨lb, hlb⟩ : ∃ lb, lb = (Rec.bads l).bytes.length := ⟨_, rfl⟩
        have hlb2 : lb = (framesB l).length + 1 := hlb
        have hfl := framesB_len l
        have HF := Lib.hid (show ∀ w', Chg NoB w3 w' → Calls Try.prog 28 #[.slice A3 l.length c3] w' (FrPost w' l) from fun w' hc => frames_any l (by omega) hfr A3 c3 w' (hr3.chg hc (fun _ _ _ x => x)))
        have HA := Lib.hid (show ∀ w5 A5 c5, Chg NoB w3 w5 → Rd w5 .u8 A5 (Rec.bads l).bytes → Off A5 (fun i => i < w3.heap.size) → lb ≤ c5 → Calls Try.prog 27 #[.pointer (some ⟨r, 0, none⟩), .slice A5 lb c5] w5 (fun e w' => ∃ E, e = .returned (.int .i64 E) ∧ P e w' ∧ w'.cell? ⟨w.heap.size, 0, none⟩ = some (.pointer (some ⟨r, 0, none⟩))) from fun w5 A5 c5 hc hrd hof hcp => by
          rw [hlb]
          refine (hA (.bads l) hok w5 A5 c5 (hCw3.trans hc (fun _ _ x => x)) hrd (fun ad e q => ?_) (by rw [← hlb]; exact hcp)).mono ?_
          · have := hof ad e
            have hz3 := hC13.size
            exact hofs ad (by omega) ad rfl q
          · rintro e w' ⟨E, rfl, hq, hcq⟩
            exact ⟨E, rfl, F.out.2 hl0 E w' hq, hcq.cell (hc.cell b3 (fun x => x)) (hofs ⟨w.heap.size, 0, none⟩ (Nat.le_refl _) _ rfl)⟩)
        have HXl := Lib.hid (show ∀ (a : Go.Act) A c, a.eval (.tmp 30) = .slice A (framesB l).length c → a.eval (.tmp 30) = .slice A ((framesB l).map (Value.int .u8)).length c from fun a A c e => by rw [List.length_map]; exact e)
        have HOW := Lib.hid (show ∀ (w5 : World) v5, w5.ownsRow w3.heap.size 5 1 v5 (1 + ((framesB l).map (Value.int .u8)).length) ([Value.int .u8 1] ++ (framesB l).map (Value.int .u8)) → ∃ A5 c5, v5 = .slice A5 lb c5 ∧ lb ≤ c5 ∧ Rd w5 .u8 A5 (Rec.bads l).bytes ∧ Off A5 (fun i => i < w3.heap.size) from fun w5 v5 h5 => by
          rw [List.length_map, show 1 + (framesB l).length = lb by omega] at h5
          obtain ⟨A5, c5, e, _, h6, h7, h8⟩ := own_rd (xs := (Rec.bads l).bytes) h5 (by omega)
          exact ⟨A5, c5, e, h6, h7, h8⟩)
        have b1 : 1 + ((framesB l).map (Value.int .u8)).length ≤ 9223372036854775807 := by rw [List.length_map]; omega
        have b2 : (1 + ((framesB l).map (Value.int .u8)).length) * 1 ≤ 140737488355328 := by rw [List.length_map]; omega
        have HO := Lib.hid (one_u8 (framesB l))
        have bL : (framesB l).length ≤ 140737488351232 := by omega
        clear hdl HH F hRW hMW hMo hB hCW hlt hWsz hA hfr hrW hnil hne hofs hl hnl hm hz1 hC12 hC1 hC2 hown3 hC3 hC13 hl3 hc3 hr3 ho3 hCw3 hok hlb hlb2 hfl lpos hl0 hB3
        go_wp2_with fail
        go_region_held3 (fun w' => w'.cell? ⟨w.heap.size, 0, none⟩ = some (.pointer (some ⟨r, 0, none⟩))) (first | go_keep | exact x6 | exact x5 | exact x4)
          (first
            | (go_at_call 28; ((with_reducible refine (HF.out _ ?_).mono ?_); (· repeat (first | exact Chg.refl _ _ | apply Chg.alloc | apply Chg.drew)); rintro e w4 ⟨g4, C4, c4, rfl, hc4, hg4, hI4, hC4⟩; have hC4' : Chg NoB w3 w4 := (by refine Chg.trans ?_ hC4 (fun _ _ x => x); (repeat (first | exact Chg.refl _ _ | apply Chg.alloc | apply Chg.drew))); have x4 := hC4'.cell b3 (fun x => x)))
            | (show if Region.wanted (Oper.mk (some 31) _ _ _ _ _) _ = true then _ else _; refine step_append_src w3.heap.size rfl (.tmp 28) (.tmp 30) 38 5 rfl (.int .u8 0) 1 Try.underlying38 info8 rfl (.slice (some ⟨_, 0, none⟩) 1 1) 1 [.int .u8 1] rfl ?_ ?_ ((framesB l).map (Value.int .u8)) (some ⟨g4, 0, none⟩) c4 (HXl.out _ _ _ rfl) (fun e => by cases e) ?_ HO.out b1 b2 ?_; (· first | exact hC4'.size | (have hq := hC4'.size; simp; omega)); (· first | exact lit_own _ _ hC4'.size _ | exact (lit_own _ _ hC4'.size _).drew | exact own_chg (lit_own _ _ (Nat.le_refl _) _) hC4 (fun _ _ x => x) | exact own_chg (lit_own _ _ (Nat.le_refl _) _).drew hC4 (fun _ _ x => x)); (· first | exact rd_src (hI4.rd bL) | exact rd_src ((hI4.rd bL).chg ((Chg.refl NoB _).alloc _) (fun _ _ _ x => x))); intro v5 w5 hown5 hC5; have hC5' : Chg NoB w3 w5 := (by refine chg_new w3 ?_ ?_ hC5; (first | exact hC4' | exact hC4'.alloc _); (first | exact Nat.le_refl _ | exact hC4'.size)); have x5 := hC5'.cell b3 (fun x => x); obtain ⟨A5, c5, rfl, hc5, hr5, ho5⟩ := HOW.out w5 v5 hown5)
            | (go_at_call 27; ((with_reducible refine (HA.out _ _ _ hC5' hr5 ho5 hc5).mono ?_)); rintro e w6 ⟨E, rfl, hP, x6⟩))
        all_goals
          go_wp2_with fail
          exact hP
end Go.Proofs.YtolojkfpokmdkaaRR.Reg
