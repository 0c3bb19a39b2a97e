/- Chapter 4: LogCrash. -/
import Derived.Test.YtfjldlhboaeemaaLogR
import Derived.Deep.AppendLies
import Derived.Laws.OwnMore
import Derived.Deep.RegionHeld3
namespace Go.Proofs.Ytfjldlhboaeemaa.Log
open Go.RowKit Go.Proofs.Ytfjldlhboaeemaa.Hp Go.Proofs.Ytfjldlhboaeemaa.By Go.Proofs.Ytfjldlhboaeemaa.Disk Go.Proofs.Ytfjldlhboaeemaa.Word Go.Proofs.Ytfjldlhboaeemaa.WordP
set_option linter.unusedVariables false
set_option linter.unusedSimpArgs false
section
variable {P : Program} {ops : Array Oper} {o : Oper} {a : Act} {K : Act → World → Prop} {Q : Exit → Act → World → Prop} {E : Prop}
/-- an append of another slice's elements, at a step of a region that draws -/
theorem step_append_src {w : World} (base : Nat) (hgd : o.guard = none) (s x : Operand) (t e : TypeId) (ho : o.op = .call { callee := .builtin .append, args := #[s, x], argTypes := #[t, t] })
    (z : Value) (bytes : Nat) (ht : P.underlying t = some (.slice e)) (hinfo : (P.info? e).map (fun i => (i.zero, i.size, i.bytes)) = some (some z, 1, bytes)) (hz : z.cells.size = 1)
    (v : Value) (n : Nat) (ys : List Value) (hs : a.eval s = v) (hbase : base ≤ w.heap.size) (hown : w.ownsRow base e 1 v n ys) (xs : List Value) (sp : Option Addr) (c : Nat) (hx : a.eval x = .slice sp xs.length c) (hnil : sp = none → c = 0)
    (hsrc : 0 < xs.length → ∃ ad, sp = some ad ∧ ∀ j v, xs[j]? = some v → w.cell? (ad.add j) = some v) (hu : ∀ u ∈ xs, u.oneCell' = true)
    (h1 : n + xs.length ≤ 9223372036854775807) (h2 : (n + xs.length) * bytes ≤ 140737488355328)
    (h : ∀ v' w', w'.ownsRow base e 1 v' (n + xs.length) (ys ++ xs) → Chg (fun i => v.ownBlock = some i) w w' → K (a.put o.dst v') w') :
    if Region.wanted o (yielded ops a.tmps) = true then Oper.wp P o a w K Q else E := by
  have hw : Region.wanted o (yielded ops a.tmps) = true := by simp [Region.wanted, hgd]
  rw [if_pos hw]
  obtain ⟨i0, hi, hz0, hz1, hz2⟩ := info_parts hinfo
  cases sp with
  | none =>
    have hx0 : xs = [] := by
      by_cases c : 0 < xs.length
      · obtain ⟨ad, hh, _⟩ := hsrc c; cases hh
      · exact List.eq_nil_of_length_eq_zero (by omega)
    subst hx0
    obtain rfl := hnil rfl
    have hrun := run_append_owned_none (P := P) (w := w) base t o.type e i0 1 ht hi v n ys hown
    unfold Oper.wp execOp
    have hx' : a.eval x = .slice none 0 0 := hx
    simp only [ho, resolve, invoke, builtin, Sem.run_bind, Sem.run_pure, Result.andThen_ok, List.map_toArray, List.map_cons, List.map_nil, hs, hx', hrun]
    exact h v w (by simpa using hown) (Chg.refl _ _)
  | some ad =>
    have hsrc2 : ∀ j u, xs[j]? = some u → w.cell? (ad.add j) = some u := by
      intro j u hj
      obtain ⟨ad', hh, hc⟩ := hsrc (by have := (List.getElem?_eq_some_iff.1 hj).1; omega)
      obtain rfl := Option.some.inj hh
      exact hc j u hj
    refine wp_append_own w s x t ho base e i0 z 1 bytes ht hi hz0 hz1 hz2 hz (by decide) v n ys hs hown ad xs.length c xs hx (by simp) hsrc2 hu (by unfold maxLen; omega) h2 hbase ?_
    intro v' w' hown' hgrow _
    exact h v' w' hown' (Chg.of_grownBy hgrow (fun j hj => .inl hj))
end
/-- the literal []T{} -/
theorem own_lit (w : World) (base : Nat) (e : TypeId) (hb : base ≤ w.heap.size) : (w.alloc (.cells #[] e)).ownsRow base e 1 (.slice (some ⟨w.heap.size, 0, none⟩) 0 0) 0 [] :=
  ⟨rfl, .inr ⟨w.heap.size, 0, #[], rfl, hb, bnew w _, by omega, by unfold maxLen; omega, rfl, rfl⟩⟩
theorem chg_new {w0 W w' : World} {g l c : Nat} (h : Chg NoB w0 W) (hg : w0.heap.size ≤ g) (hc : Chg (fun i => (Value.slice (some ⟨g, 0, none⟩) l c).ownBlock = some i) W w') : Chg NoB w0 w' :=
  h.trans hc (fun i hi x => by simp [Value.ownBlock] at x; omega)
theorem one_src {W : World} {g : Nat} {u : Value} (hb : W.cell? ⟨g, 0, none⟩ = some u) : 0 < [u].length → ∃ ad, some (⟨g, 0, none⟩ : Addr) = some ad ∧ ∀ j v, [u][j]? = some v → W.cell? (ad.add j) = some v := fun _ => ⟨_, rfl, fun j v hj => by
  have : j = 0 := by
    have := (List.getElem?_eq_some_iff.1 hj).1
    simp at this; omega
  subst this
  have e : (⟨g, 0, none⟩ : Addr).add 0 = ⟨g, 0, none⟩ := rfl
  rw [e, hb]
  simpa using hj⟩
theorem cell_new (W : World) (u : Value) (T : TypeId) : (W.alloc (.cells #[u] T)).cell? ⟨W.heap.size, 0, none⟩ = some u := by
  rw [bcell (bnew W _) 0]; rfl
theorem own_drew {w : World} {base n : Nat} {e : TypeId} {v : Value} {xs : List Value} (h : w.ownsRow base e 1 v n xs) : w.drew.ownsRow base e 1 v n xs := h
theorem own_alloc {w : World} {base n : Nat} {e : TypeId} {v : Value} {xs : List Value} (h : w.ownsRow base e 1 v n xs) (o : Obj) : (w.alloc o).ownsRow base e 1 v n xs := h.alloc o
theorem cell_1 (W : World) (L : Obj) (u : Value) (T : TypeId) : ((W.alloc L).alloc (.cells #[u] T)).cell? ⟨W.heap.size + 1, 0, none⟩ = some u := by
  have := cell_new (W.alloc L) u T
  rwa [World.size_alloc] at this
theorem cell_2 (W : World) (L : Obj) (u : Value) (T : TypeId) : ((W.alloc (.cells #[u] T)).alloc L).cell? ⟨W.heap.size, 0, none⟩ = some u :=
  ((Chg.refl NoB _).alloc L).cell (cell_new W u T) (fun x => x)
theorem cell_drew {W : World} {p : Addr} {v : Option Value} (h : W.cell? p = v) : W.drew.cell? p = v := h
theorem lit_1 (W : World) (L : Obj) (base : Nat) (e : TypeId) (h : base ≤ W.heap.size) : ((W.alloc L).alloc (.cells #[] e)).ownsRow base e 1 (.slice (some ⟨W.heap.size + 1, 0, none⟩) 0 0) 0 [] := by
  have := own_lit (W.alloc L) base e (by rw [World.size_alloc]; omega)
  rwa [World.size_alloc] at this
def CrB (w0 : World) (d : Nat) (ps : List (List Int)) (now then' i : Value) (wr : World) : Prop :=
  ∃ (m : Nat) (ρ : Nat → Nat) (s : DSt), m ≤ ps.length ∧ i = .int .i64 m ∧ DL w0 wr d ρ s ∧ Firm s (wantf 9 (ps.take m)) ∧ WRows w0 wr now (ps.take m) ∧ WRows w0 wr then' (ps.take m) ∧ (∀ g, now.ownBlock = some g → ρ g = 0) ∧ (∀ g, then'.ownBlock = some g → ρ g = 0) ∧ ∀ p ∈ ps.take m, p.length ≤ 50
theorem WRows.rowsC {w0 w : World} {v : Value} {ws : List (List Int)} (h : WRows w0 w v ws) : ∃ (A : Option Addr) (c : Nat) (SVs : List Value), v = .slice A ws.length c ∧ SVs.length = ws.length ∧ (A = none → c = 0) ∧ (∀ u ∈ SVs, u.oneCell' = true) ∧ (0 < SVs.length → ∃ ad, A = some ad ∧ ∀ j V, SVs[j]? = some V → w.cell? (ad.add j) = some V) ∧ ∀ j, j < ws.length → ∃ B c, SVs[j]? = some (.slice B (ws.getD j []).length c) ∧ Rd w0 .u8 B (ws.getD j []) := by
  obtain ⟨SVs, hown, h2⟩ := h
  have hl : SVs.length = ws.length := by have := hown.1; simpa using this
  have hu : ∀ u ∈ SVs, u.oneCell' = true := fun u hu => by
    obtain ⟨j, hj, e⟩ := List.getElem_of_mem hu
    obtain ⟨B, c, e1, _⟩ := h2 j (by omega)
    rw [List.getElem?_eq_getElem hj] at e1
    have e2 := Option.some.inj e1
    rw [← e, e2]; rfl
  rcases hown.2 with ⟨rfl, h0⟩ | ⟨g, cap, cur, rfl, _⟩
  · exact ⟨none, 0, SVs, by rw [h0], hl, fun _ => rfl, hu, fun hp => by omega, h2⟩
  · exact ⟨_, cap, SVs, rfl, hl, (fun x => by cases x), hu, fun _ => ⟨_, rfl, fun j V hj => hown.cells (g := g) rfl j V hj⟩, h2⟩
theorem own_base {w : World} {base base' n : Nat} {e : TypeId} {v : Value} {xs : List Value} (h : w.ownsRow base' e 1 v n xs) (hb : base ≤ base') : w.ownsRow base e 1 v n xs := by
  obtain ⟨h1, h2⟩ := h
  refine ⟨h1, ?_⟩
  rcases h2 with h2 | ⟨g, cap, cur, e1, e2, e3⟩
  · exact .inl h2
  · exact .inr ⟨g, cap, cur, e1, by omega, e3⟩
theorem push_row {w0 wr w4 : World} {d : Nat} {ρ : Nat → Nat} {s : DSt} {ws : List (List Int)} {SVs : List Value} {p : List Int} {B : Option Addr} {cB : Nat} {v4 : Value} (hD : DL w0 wr d ρ s) (hl : SVs.length = ws.length) (h2 : ∀ j, j < ws.length → ∃ B c, SVs[j]? = some (.slice B (ws.getD j []).length c) ∧ Rd w0 .u8 B (ws.getD j [])) (hp : Rd w0 .u8 B p)
    (hown : w4.ownsRow wr.heap.size 29 1 v4 (0 + SVs.length + [Value.slice B p.length cB].length) ([] ++ SVs ++ [.slice B p.length cB])) :
    WRows w0 w4 v4 (ws ++ [p]) ∧ (∀ g, v4.ownBlock = some g → ρ g = 0) ∧ (∀ g, v4.ownBlock = some g → g < w4.heap.size) ∧ ∃ A c, v4 = .slice A (ws.length + 1) c := by
  have e1 : 0 + SVs.length + [Value.slice B p.length cB].length = ws.length + 1 := by simp; omega
  rw [e1, List.nil_append] at hown
  refine ⟨WRows.snoc hl h2 hp (own_base hown hD.ch.size), fun g hg => ?_, fun g hg => own_lt hown g hg, ?_⟩
  · obtain ⟨_, _, _, _, _, _, _, hq⟩ := hD.at_
    exact hq.rz g (own_ge hown g hg).1
  · obtain ⟨A, c, e, _⟩ := own_cells hown
    exact ⟨A, c, e⟩
/-- a disk, and two rows of records -/
def TailAt (w0 w : World) (d : Nat) (ρ : Nat → Nat) (s : DSt) (A1 : Option Addr) (c1 : Nat) (A2 : Option Addr) (c2 : Nat) (ws ws2 : List (List Int)) : Prop :=
  DL w0 w d ρ s ∧ WRows w0 w (.slice A1 ws.length c1) ws ∧ WRows w0 w (.slice A2 ws2.length c2) ws2 ∧ (∀ g, (Value.slice A1 ws.length c1).ownBlock = some g → ρ g = 0) ∧ (∀ g, (Value.slice A2 ws2.length c2).ownBlock = some g → ρ g = 0) ∧ ws.length ≤ 64 ∧ ws2.length ≤ 64
def CrashTo (w0 : World) (d : Nat) (s : DSt) (A1 : Option Addr) (c1 : Nat) (A2 : Option Addr) (c2 : Nat) (ws ws2 : List (List Int)) (e : Ending) (w' : World) : Prop := e = .returned (.tuple #[]) ∧ ∃ ρ', TailAt w0 w' d ρ' s A1 c1 A2 c2 ws ws2
section
variable {w0 w : World} {d : Nat} {ρ : Nat → Nat} {s : DSt} {A1 A2 : Option Addr} {c1 c2 : Nat} {ws ws2 : List (List Int)}
theorem tail_crash (keep torn : Int) (k0 : 0 ≤ keep) (k1 : keep < 18446744073709551616) (h : TailAt w0 w d ρ s A1 c1 A2 c2 ws ws2) : Calls Try.prog 24 #[.pointer (some ⟨d, 0, none⟩), .int .u64 keep, .int .i64 torn] w (CrashTo w0 d (s.crash keep torn) A1 c1 A2 c2 ws ws2) := by
  obtain ⟨h1, h2, h3, h4, h5, h6, h7⟩ := h
  refine (l_crash keep torn k0 k1 h1).mono ?_
  rintro e w' ⟨rfl, hC, ρ', hD, hi⟩
  have zr : ∀ g, ρ g = 0 → ρ' g = 0 := fun g hg => by
    by_cases c : ρ' g = 0
    · exact c
    · exact absurd hg ((hi g).mp c)
  exact ⟨rfl, ρ', hD, h2.chg hC (fun g hg x => x (h4 g hg)), h3.chg hC (fun g hg x => x (h5 g hg)), fun g hg => zr g (h4 g hg), fun g hg => zr g (h5 g hg), h6, h7⟩
/-- and the records that were read -/
def TailBy (w0 w : World) (d : Nat) (ρ : Nat → Nat) (s : DSt) (A1 : Option Addr) (c1 : Nat) (A2 : Option Addr) (c2 : Nat) (ws ws2 : List (List Int)) (A : Option Addr) (k c : Nat) : Prop :=
  TailAt w0 w d ρ s A1 c1 A2 c2 ws ws2 ∧ ∃ base, (∀ i, Own ρ i → i < base) ∧ LRows w base (.slice A k c) (recs s 9 k) ∧ k ≤ 64 ∧ (∀ j : Nat, j < k → (recOf (s.get (j : Int)) 9 j).isSome = true) ∧ (k = 64 ∨ recOf (s.get (k : Int)) 9 k = none)
def ReplayTo (w0 : World) (d : Nat) (ρ : Nat → Nat) (s : DSt) (A1 : Option Addr) (c1 : Nat) (A2 : Option Addr) (c2 : Nat) (ws ws2 : List (List Int)) (e : Ending) (w' : World) : Prop := ∃ A k c, e = .returned (.tuple #[.slice A k c, .int .i64 0]) ∧ TailBy w0 w' d ρ s A1 c1 A2 c2 ws ws2 A k c
theorem tail_replay (hc : Disk.Calm s) (hn : s.n = 192) (h : TailAt w0 w d ρ s A1 c1 A2 c2 ws ws2) : Calls Try.prog 14 #[.pointer (some ⟨d, 0, none⟩), .int .u32 9] w (ReplayTo w0 d ρ s A1 c1 A2 c2 ws ws2) := by
  obtain ⟨h1, h2, h3, h4, h5, h6, h7⟩ := h
  refine (replay_any 9 (by decide) (by decide) (by rw [hn]; decide) h1).mono fun e w' hp => ?_
  obtain ⟨k, hk, q1, q2, v, rfl, hC, hL, hD⟩ := same_recs hp hc (by rw [hn]; decide)
  obtain ⟨A, c, rfl⟩ := lrows_len hL
  rw [recs_len] at hL ⊢
  refine ⟨A, k, c, rfl, ⟨hD, h2.chg hC (fun g hg x => x (h4 g hg)), h3.chg hC (fun g hg x => x (h5 g hg)), h4, h5, h6, h7⟩, w.heap.size, fun i hi => ?_, hL, hk, q1, q2⟩
  obtain ⟨_, _, _, _, _, _, _, hp⟩ := h1.at_
  by_cases c : i < w.heap.size
  · exact c
  · exact absurd (hp.rz i (by omega)) hi
variable {A : Option Addr} {k c : Nat}
theorem TailBy.go {w' : World} (h : TailBy w0 w d ρ s A1 c1 A2 c2 ws ws2 A k c) (hC : Chg (Own ρ) w w') (hD : DL w0 w' d ρ s) : TailBy w0 w' d ρ s A1 c1 A2 c2 ws ws2 A k c := by
  obtain ⟨⟨h1, h2, h3, h4, h5, h6, h7⟩, base, b1, b2, b3⟩ := h
  exact ⟨⟨hD, h2.chg hC (fun g hg x => x (h4 g hg)), h3.chg hC (fun g hg x => x (h5 g hg)), h4, h5, h6, h7⟩, base, b1, b2.chg hC b1, b3⟩
theorem TailBy.keep {w' : World} (h : TailBy w0 w d ρ s A1 c1 A2 c2 ws ws2 A k c) (hC : Chg NoB w w') : TailBy w0 w' d ρ s A1 c1 A2 c2 ws ws2 A k c :=
  h.go (hC.mono (fun _ _ x => x.elim)) (h.1.1.keep hC)
theorem TailBy.recs_rows (h : TailBy w0 w d ρ s A1 c1 A2 c2 ws ws2 A k c) : Rows w A (recs s 9 k) := by
  obtain ⟨_, base, _, hL, _⟩ := h
  obtain ⟨A', c', ev, hR⟩ := hL.rows
  injection ev with ev1 _ _
  subst ev1
  exact hR
theorem TailBy.same1 (h : TailBy w0 w d ρ s A1 c1 A2 c2 ws ws2 A k c) : Calls Try.prog 15 #[.slice A k c, .slice A1 ws.length c1] w (RetB (decide (recs s 9 k = ws)) w) := by
  obtain ⟨A', c', ev, hR⟩ := h.1.2.1.rows h.1.1.ch
  injection ev with ev1 _ _
  subst ev1
  have hk := h.2.choose_spec.2.2.1
  have hl := h.1.2.2.2.2.2.1
  have := sameAll_any A A1 c c1 (recs s 9 k) ws w h.recs_rows hR (by rw [recs_len]; omega) (by omega)
  rwa [recs_len] at this
theorem TailBy.same2 (h : TailBy w0 w d ρ s A1 c1 A2 c2 ws ws2 A k c) : Calls Try.prog 15 #[.slice A k c, .slice A2 ws2.length c2] w (RetB (decide (recs s 9 k = ws2)) w) := by
  obtain ⟨A', c', ev, hR⟩ := h.1.2.2.1.rows h.1.1.ch
  injection ev with ev1 _ _
  subst ev1
  have hk := h.2.choose_spec.2.2.1
  have hl := h.1.2.2.2.2.2.2
  have := sameAll_any A A2 c c2 (recs s 9 k) ws2 w h.recs_rows hR (by rw [recs_len]; omega) (by omega)
  rwa [recs_len] at this
def SecsTo (w0 : World) (d : Nat) (ρ : Nat → Nat) (s : DSt) (A1 : Option Addr) (c1 : Nat) (A2 : Option Addr) (c2 : Nat) (ws ws2 : List (List Int)) (A : Option Addr) (k c : Nat) (e : Ending) (w' : World) : Prop := ∃ A4 c4, e = .returned (.slice A4 64 c4) ∧ SIn w' A4 (fun j => s.get (j : Int)) ∧ TailBy w0 w' d ρ s A1 c1 A2 c2 ws ws2 A k c
theorem TailBy.secs (hc : Disk.Calm s) (hn : s.n = 192) (h : TailBy w0 w d ρ s A1 c1 A2 c2 ws ws2 A k c) : Calls Try.prog 17 #[.pointer (some ⟨d, 0, none⟩)] w (SecsTo w0 d ρ s A1 c1 A2 c2 ws ws2 A k c) := by
  refine (sectors_law hc (by rw [hn]; decide) h.1.1).mono ?_
  rintro e w4 ⟨v4, rfl, hC4, hS4, h4⟩
  obtain ⟨A4, c4, rfl, hI4⟩ := hS4.sin
  exact ⟨A4, c4, rfl, hI4, h.go hC4 h4⟩
theorem TailBy.same3 {w4 : World} {A5 : Option Addr} {m5 c5 : Nat} (h : TailBy w0 w d ρ s A1 c1 A2 c2 ws ws2 A k c) (hm5 : m5 ≤ 64) (hR5 : RRows w4 w (fun j => s.get (j : Int)) 9 (.slice A5 m5 c5) m5) (hRR : Rows w A5 (recsF (fun j => s.get (j : Int)) 9 m5)) (hno : m5 = 64 ∨ recOf (s.get (m5 : Int)) 9 m5 = none) :
    Calls Try.prog 15 #[.slice A k c, .slice A5 m5 c5] w (RetB true w) := by
  have hr := h.recs_rows
  obtain ⟨_, base, _, _, hk, q1, q2⟩ := h
  have hkm : k = m5 := stop_eq (f := fun j => s.get (j : Int)) hk hm5 q1 q2 (fun j hj => by
    obtain ⟨_, _, h2⟩ := hR5
    obtain ⟨_, _, _, b, _, _, h3⟩ := h2 j hj
    rw [h3]; rfl) hno
  subst hkm
  have := sameAll_any A A5 c c5 (recs s 9 k) (recsF (fun j => s.get (j : Int)) 9 k) w hr hRR (by rw [recs_len]; omega) (by rw [recsF_len]; omega)
  rw [recs_len, recsF_len, decide_eq_true (recs_recsF s 9 k)] at this
  exact this
end
set_option maxRecDepth 100000 in
set_option maxHeartbeats 4000000 in
theorem logCrash (A : Option Addr) (c : Nat) (ps : List (List Int)) (fuse keep torn : Int) (w : World) (k0 : 0 ≤ keep) (k1 : keep < 18446744073709551616) (f1 : fuse ≤ 9223372036854775807) (hb : ∀ p ∈ ps, ∀ x ∈ p, 0 ≤ x ∧ x ≤ 255) (h : RowsN w A ps) (hps : ps.length ≤ 140737488351232) : Calls Try.prog 10 #[.slice A ps.length c, .int .i64 fuse, .int .u64 keep, .int .i64 torn] w (True1 w) := by
  by_cases hl : 60 < ps.length
  · clear h hb
    go_enter Try.func10, Try.ntmps10
    go_wp2_with fail
    refine (answers4 _).mono ?_
    rintro e w1 ⟨rfl, hC⟩
    have fin : True1 w (.returned (.bool true)) w1 := ⟨rfl, hC⟩
    clear hC
    go_wp2_with fail
    go_ret
    exact fin
  · have hn : ps.length ≤ 60 := by omega
    have HR := Lib.hid (And.intro h hb)
    clear h hb hl
    go_enter Try.func10, Try.ntmps10
    go_wp2_with fail
    refine (l_new 192 (by omega) (by omega) w).mono ?_
    rintro e w1 ⟨d, ρ, rfl, h1⟩
    have hfu := l_fuse fuse f1 h1
    clear h1
    go_wp2_with fail
    refine hfu.mono ?_
    rintro e w2 ⟨rfl, h2, _⟩
    have hB : CrB w d ps (.slice none 0 0) (.slice none 0 0) (.int .i64 0) w2 := ⟨0, ρ, _, by omega, rfl, h2, firm_new fuse, WRows.nil _ _, WRows.nil _ _, fun g hg => by simp [Value.ownBlock] at hg, fun g hg => by simp [Value.ownBlock] at hg, fun p hp => by cases hp⟩
    clear hfu h2
    go_wp2_with fail
    go_loopw [10, 11, 12] (fun now then' i wr => CrB w d ps now then' i wr) (fun now then' i wr => (64 - intOf i).toNat)
    case atStart => exact hB
    case round =>
      clear hB
      obtain ⟨m, ρ1, s, hm, rfl, hD, hF, hW, hW2, hO, hO2, h5⟩ := hrel
      obtain ⟨A10, c10, SVs, rfl, e1, e2, e3, e4, e5⟩ := hW.rowsC
      by_cases hlt : m < ps.length
      · obtain ⟨ad, B, cB, rfl, y1, y2, y3⟩ := HR.out.1 m hlt
        have hmem : ps.getD m [] ∈ ps := by rw [List.getD_eq_getElem?_getD, List.getElem?_eq_getElem hlt]; exact List.getElem_mem _
        have hby : Bytes (ps.getD m []) := fun x hx => by have := HR.out.2 _ hmem x hx; omega
        have x1 := hD.ch.cell y1 (fun x => x)
        have htk : (ps.take m).length = m := by rw [List.length_take]; omega
        have hsn : ps.take (m + 1) = ps.take m ++ [ps.getD m []] := by rw [List.take_add_one, List.getD_eq_getElem?_getD, List.getElem?_eq_getElem hlt]; rfl
        rw [htk]
        rw [htk] at e1 hO hW
        by_cases hp : 50 < (ps.getD m []).length
        · have fin : Chg NoB w wr := hD.ch
          generalize ps.getD m [] = p at *
          clear hD hF hW hW2 hO hO2 h5 e1 e2 e3 e4 e5 y1 y2 y3 hmem hby htk hsn HR
          go_wp2_with fail
          refine (answers4 _).mono ?_
          rintro e w3 ⟨rfl, hC⟩
          have fin2 : True1 w (.returned (.bool true)) w3 := ⟨rfl, fin.trans hC (fun _ _ x => x)⟩
          clear hC fin x1
          go_wp2_with fail
          go_ret
          exact fin2
        · have H := Lib.hid (And.intro hD (And.intro hF (And.intro hW (And.intro hO (And.intro h5 (And.intro y1 (And.intro y2 (And.intro y3 (And.intro hby (And.intro htk hsn))))))))))
          have hpd : decide (50 < ((ps.getD m []).length : Int)) = false := decide_eq_false (by omega)
          clear hD hF hW hW2 hO hO2 h5 y1 y2 y3 hby htk hsn hmem
          generalize ps.getD m [] = p at *
          have HXl := Lib.hid (show ∀ v, v = Value.slice A10 m c10 → v = .slice A10 SVs.length c10 from fun v h => by rw [e1]; exact h)
          have hz : ∀ w', Chg NoB wr w' → 0 < SVs.length → ∃ ad, A10 = some ad ∧ ∀ j v, SVs[j]? = some v → w'.cell? (ad.add j) = some v := fun w' hc hp => by
            obtain ⟨ad, q1, q2⟩ := e4 hp
            exact ⟨ad, q1, fun j v hj => hc.cell (q2 j v hj) (fun x => x)⟩
          have b1 : 0 + SVs.length ≤ 9223372036854775807 := by omega
          have b2 : (0 + SVs.length) * 24 ≤ 140737488355328 := by omega
          have HZ := Lib.hid (And.intro hz (And.intro e1 (And.intro e2 (And.intro e3 (And.intro b1 (And.intro b2 e5))))))
          clear hz e1 e2 e3 e4 b1 b2 e5
          go_wp2_with fail
          have hOne : ∀ u ∈ [Value.slice B p.length cB], u.oneCell' = true := fun u hu => by rw [List.mem_singleton] at hu; rw [hu]; rfl
          have b3 : 0 + SVs.length + [Value.slice B p.length cB].length ≤ 9223372036854775807 := by have := HZ.out.2.1; simp; omega
          have b4 : (0 + SVs.length + [Value.slice B p.length cB].length) * 24 ≤ 140737488355328 := by have := HZ.out.2.1; simp; omega
          go_region_held3 (fun w' => w'.cell? (ad.add m) = some (.slice B p.length cB)) (first | go_keep | assumption)
            ((first
              | (show if Region.wanted (Oper.mk (some 38) _ _ _ _ _) _ = true then _ else _; refine step_append_src wr.heap.size rfl (.tmp 36) (.tmp 37) 22 29 rfl (.slice none 0 0) 24 Try.underlying22 info24 rfl (.slice (some ⟨_, 0, none⟩) 0 0) 0 [] rfl ?_ ?_ SVs A10 c10 (HXl.out _ rfl) HZ.out.2.2.1 ?_ HZ.out.2.2.2.1 HZ.out.2.2.2.2.1 HZ.out.2.2.2.2.2.1 ?_; (· first | (simp; done) | (simp; omega)); (· repeat (first | exact own_lit _ _ _ (Nat.le_refl _) | exact lit_1 _ _ _ _ (Nat.le_refl _) | apply own_alloc | apply own_drew)); (· refine HZ.out.1 _ ?_; (repeat (first | exact Chg.refl _ _ | apply Chg.alloc | apply Chg.drew))); intro v3 w3 hown3 hC3; have hC3' : Chg NoB wr w3 := (by refine chg_new (w0 := wr) ?_ ?_ hC3; (repeat (first | exact Chg.refl _ _ | apply Chg.alloc | apply Chg.drew)); first | (simp; done) | (simp; omega)); have x3 := hC3'.cell x1 (fun x => x))
              | (show if Region.wanted (Oper.mk (some 44) _ _ _ _ _) _ = true then _ else _; refine step_append_src wr.heap.size rfl (.tmp 38) (.tmp 43) 22 29 rfl (.slice none 0 0) 24 Try.underlying22 info24 rfl v3 (0 + SVs.length) ([] ++ SVs) rfl ?_ ?_ [.slice B p.length cB] _ 1 rfl (fun x => by cases x) ?_ hOne b3 b4 ?_; (· have hq := hC3'.size; first | (simp; done) | (simp; omega) | omega); (· repeat (first | exact hown3 | apply own_alloc | apply own_drew)); (· refine one_src ?_; first | exact cell_new _ _ _ | (refine hC3.cell ?_ ?_; (repeat (first | exact cell_1 _ _ _ _ | exact cell_2 _ _ _ _ | apply cell_drew)); (simp [Value.ownBlock]; done))); intro v4 w4 hown4 hC4; have hC4' : Chg NoB wr w4 := (by refine Chg.trans ?_ hC4 ?_; (repeat (first | exact hC3' | apply Chg.alloc | apply Chg.drew)); exact (fun i hi x => by have := (own_ge hown3 i x).1; omega)); have x4 := hC4'.cell x1 (fun x => x))))
          all_goals
            have hD4 := H.out.1.keep hC4'
            obtain ⟨hW4, hO4, hL4, A11, c11, ev⟩ := push_row H.out.1 (by rw [H.out.2.2.2.2.2.2.2.2.2.1]; exact HZ.out.2.1) HZ.out.2.2.2.2.2.2 H.out.2.2.2.2.2.2.1 hown4
            rw [H.out.2.2.2.2.2.2.2.2.2.1] at ev
            subst ev
            have ha := append_any 9 (m : Int) B cB p hD4 (by decide) (by decide) (by omega) (by omega) (by omega) (H.out.2.2.2.2.2.2.1.chg hD4.ch (fun _ _ _ x => x)) H.out.2.2.2.2.2.2.2.2.1
            obtain ⟨r1, r2⟩ := app_firm H.out.2.1 m (by omega) (secL 9 m p) (secL_len 9 m p (by omega))
            have hWn4 := H.out.2.2.1.chg hC4' (fun _ _ x => x)
            have hLn : ∀ g, (Value.slice A10 m c10).ownBlock = some g → g < w4.heap.size := fun g hg => by
              obtain ⟨SV, hown, _⟩ := hWn4
              exact own_lt hown g hg
            have hOn4 := H.out.2.2.2.1
            have h5 := H.out.2.2.2.2.1
            have htk := H.out.2.2.2.2.2.2.2.2.2.1
            have hsn := H.out.2.2.2.2.2.2.2.2.2.2
            have wsn := wantf_snoc 9 (ps.take m) p
            rw [htk] at wsn
            have h6 : ∀ q ∈ ps.take m ++ [p], q.length ≤ 50 := fun q hq => by
              rcases List.mem_append.mp hq with hq | hq
              · exact h5 q hq
              · rw [List.mem_singleton] at hq; subst hq; omega
            have l6 : (ps.take m ++ [p]).length = m + 1 := by rw [List.length_append, htk]; rfl
            have kh := fun (hh : Half (appS s m (secL 9 m p)) (wantf 9 (ps.take m)) m (secL 9 m p)) => keeps_half (gen := 9) (ws := ps.take m) (p := p) (by decide) (by rw [htk]; exact hh) h5 (by omega) (by omega) keep torn
            have HX := Lib.hid (And.intro hW4 (And.intro hO4 (And.intro hL4 (And.intro hWn4 (And.intro hLn (And.intro hOn4 (And.intro h5 (And.intro htk (And.intro hsn (And.intro wsn (And.intro h6 (And.intro l6 (And.intro r1 (And.intro r2 kh))))))))))))))
            clear hW4 hO4 hL4 hWn4 hLn hOn4 h5 htk hsn wsn h6 l6 r1 r2 kh hown4 hC4 hC4' hD4 hC3 hC3' hown3 H HZ HXl x1 x3 hp b3 b4 hOne
            generalize secL 9 (m : Int) p = S at *
            generalize appE s m S = E at *
            generalize appS s m S = s2 at *
            by_cases hE : E = 0
            · subst hE
              go_wp2_with fail
              refine ha.mono ?_
              rintro e w5 ⟨rfl, hC5, ρ2, h5', hO5⟩
              have z4 : ∀ g, (Value.slice A11 (m + 1) c11).ownBlock = some g → ρ2 g = 0 := fun g hg => hO5 g (HX.out.2.2.1 g hg) (HX.out.2.1 g hg)
              have wf := HX.out.1.chg hC5 (fun g hg x => x (HX.out.2.1 g hg))
              have fin : CrB w d ps (.slice A11 (m + 1) c11) (.slice A11 (m + 1) c11) (.int .i64 ((m : Int) + 1)) w5 := ⟨m + 1, ρ2, s2, by omega, rfl, h5', by rw [HX.out.2.2.2.2.2.2.2.2.1, HX.out.2.2.2.2.2.2.2.2.2.1]; exact HX.out.2.2.2.2.2.2.2.2.2.2.2.2.1 (by trivial), by rw [HX.out.2.2.2.2.2.2.2.2.1]; exact wf, by rw [HX.out.2.2.2.2.2.2.2.2.1]; exact wf, z4, z4, by rw [HX.out.2.2.2.2.2.2.2.2.1]; exact HX.out.2.2.2.2.2.2.2.2.2.2.1⟩
              clear ha hC5 h5' hO5 z4 wf HX
              go_wp2_with fail
              exact ⟨fin, by simp [intOf]; omega⟩
            · have hEb : (E != 0) = true := by rw [bne_iff_ne]; exact hE
              go_wp2_with fail
              refine ha.mono ?_
              rintro e w5 ⟨rfl, hC5, ρ2, h5', hO5⟩
              have hT : TailAt w w5 d ρ2 s2 A10 c10 A11 c11 (ps.take m) (ps.take m ++ [p]) := by
                have htk := HX.out.2.2.2.2.2.2.2.1
                have l6 := HX.out.2.2.2.2.2.2.2.2.2.2.2.1
                refine ⟨h5', ?_, ?_, ?_, ?_, by omega, by omega⟩
                · rw [htk]; exact HX.out.2.2.2.1.chg hC5 (fun g hg x => x (HX.out.2.2.2.2.2.1 g hg))
                · rw [l6]; exact HX.out.1.chg hC5 (fun g hg x => x (HX.out.2.1 g hg))
                · rw [htk]; exact fun g hg => hO5 g (HX.out.2.2.2.2.1 g hg) (HX.out.2.2.2.2.2.1 g hg)
                · rw [l6]; exact fun g hg => hO5 g (HX.out.2.2.1 g hg) (HX.out.2.1 g hg)
              have hKT := HX.out.2.2.2.2.2.2.2.2.2.2.2.2.2.2 (HX.out.2.2.2.2.2.2.2.2.2.2.2.2.2.1 hE)
              obtain ⟨ws, hws⟩ : ∃ ws, ws = ps.take m := ⟨_, rfl⟩
              obtain ⟨ws2, hws2⟩ : ∃ ws2, ws2 = ps.take m ++ [p] := ⟨_, rfl⟩
              have hk1 : ws.length = m := by rw [hws]; exact HX.out.2.2.2.2.2.2.2.1
              have hk2 : ws2.length = m + 1 := by rw [hws2]; exact HX.out.2.2.2.2.2.2.2.2.2.2.2.1
              rw [← hws2, ← hws] at hT hKT
              have hk := Lib.hid (And.intro hk1 hk2)
              clear ha hC5 h5' hO5 HX hE hws hws2
              have hcr := tail_crash keep torn k0 k1 hT
              have hcalm := hKT.1
              have hn192 := hKT.2.1
              have HKT := Lib.hid hKT.2.2
              clear hT hKT
              generalize s2.crash keep torn = s3 at *
              go_wp2_with fail
              refine hcr.mono ?_
              rintro e w6 ⟨rfl, ρ6, hT6⟩
              have hrp := tail_replay hcalm hn192 hT6
              clear hcr hT6
              go_wp2_with fail
              refine hrp.mono ?_
              rintro e w7 ⟨A7, k7, c7, rfl, hT7⟩
              have hkk := HKT.out k7 hT7.2.choose_spec.2.2.1 hT7.2.choose_spec.2.2.2.1 hT7.2.choose_spec.2.2.2.2
              clear hrp HKT
              by_cases q1 : recs s3 9 k7 = ws
              · have HE := Lib.hid (And.intro (decide_eq_true q1) (Eq.refl (decide (recs s3 9 k7 = ws2))))
                clear q1 hkk
                go_wp2_with (first | ((with_reducible refine (answers4 _).mono ?_); rintro e w8 ⟨rfl, hC8⟩; have t8 := hT7.keep hC8; have sa1 := t8.same1; rw [HE.out.1, hk1] at sa1; clear t8) | ((with_reducible refine sa1.mono ?_); rintro e w9 ⟨rfl, hC9⟩; have t9 := (hT7.keep hC8).keep hC9; have sc := t9.secs hcalm hn192; clear t9) | ((with_reducible refine sc.mono ?_); rintro e w11 ⟨A4, c4, rfl, hI4, hT11⟩; have hrc := records_any 9 A4 c4 _ w11 (by decide) (by decide) hI4) | ((with_reducible refine hrc.mono ?_); rintro e w12 ⟨v5, m5, rfl, hC12, hm5, hR5, hno5⟩; obtain ⟨A5, c5, rfl, hRR⟩ := hR5.rows hC12; have hsa := (hT11.keep hC12).same3 hm5 hR5 hRR hno5) | ((with_reducible refine hsa.mono ?_); rintro e w13 ⟨rfl, hC13⟩) | go_in)
                go_ret
                exact ⟨rfl, (hT11.1.1.ch.trans hC12 (fun _ _ x => x)).trans hC13 (fun _ _ x => x)⟩
              · by_cases q2 : recs s3 9 k7 = ws2
                · have HE := Lib.hid (And.intro (decide_eq_false q1) (decide_eq_true q2))
                  clear q1 q2 hkk
                  go_wp2_with (first | ((with_reducible refine (answers4 _).mono ?_); rintro e w8 ⟨rfl, hC8⟩; have t8 := hT7.keep hC8; have sa1 := t8.same1; rw [HE.out.1, hk1] at sa1; clear t8) | ((with_reducible refine sa1.mono ?_); rintro e w9 ⟨rfl, hC9⟩; have t9 := (hT7.keep hC8).keep hC9; have sc := t9.secs hcalm hn192; have sa2 := t9.same2; rw [HE.out.2, hk2] at sa2; clear t9) | ((with_reducible refine sa2.mono ?_); rintro e w10 ⟨rfl, hC10⟩; have t10 := ((hT7.keep hC8).keep hC9).keep hC10; have sc := t10.secs hcalm hn192; clear t10) | ((with_reducible refine sc.mono ?_); rintro e w11 ⟨A4, c4, rfl, hI4, hT11⟩; have hrc := records_any 9 A4 c4 _ w11 (by decide) (by decide) hI4) | ((with_reducible refine hrc.mono ?_); rintro e w12 ⟨v5, m5, rfl, hC12, hm5, hR5, hno5⟩; obtain ⟨A5, c5, rfl, hRR⟩ := hR5.rows hC12; have hsa := (hT11.keep hC12).same3 hm5 hR5 hRR hno5) | ((with_reducible refine hsa.mono ?_); rintro e w13 ⟨rfl, hC13⟩) | go_in)
                  go_ret
                  exact ⟨rfl, (hT11.1.1.ch.trans hC12 (fun _ _ x => x)).trans hC13 (fun _ _ x => x)⟩
                · have ht := (hkk.resolve_left q1).resolve_left q2
                  have d1 : decide (0 < torn) = true := decide_eq_true ht.1
                  have d2 : decide (torn < 64) = true := decide_eq_true ht.2
                  have HE := Lib.hid (And.intro (decide_eq_false q1) (decide_eq_false q2))
                  clear q1 q2 hkk ht
                  go_wp2_with (first | ((with_reducible refine (answers4 _).mono ?_); rintro e w8 ⟨rfl, hC8⟩; have t8 := hT7.keep hC8; have sa1 := t8.same1; rw [HE.out.1, hk1] at sa1; clear t8) | ((with_reducible refine sa1.mono ?_); rintro e w9 ⟨rfl, hC9⟩; have t9 := (hT7.keep hC8).keep hC9; have sc := t9.secs hcalm hn192; have sa2 := t9.same2; rw [HE.out.2, hk2] at sa2; clear t9) | ((with_reducible refine sa2.mono ?_); rintro e w10 ⟨rfl, hC10⟩; have t10 := ((hT7.keep hC8).keep hC9).keep hC10; have sc := t10.secs hcalm hn192; clear t10) | ((with_reducible refine sc.mono ?_); rintro e w11 ⟨A4, c4, rfl, hI4, hT11⟩; have hrc := records_any 9 A4 c4 _ w11 (by decide) (by decide) hI4) | ((with_reducible refine hrc.mono ?_); rintro e w12 ⟨v5, m5, rfl, hC12, hm5, hR5, hno5⟩; obtain ⟨A5, c5, rfl, hRR⟩ := hR5.rows hC12; have hsa := (hT11.keep hC12).same3 hm5 hR5 hRR hno5) | ((with_reducible refine hsa.mono ?_); rintro e w13 ⟨rfl, hC13⟩) | go_in)
                  go_ret
                  exact ⟨rfl, (hT11.1.1.ch.trans hC12 (fun _ _ x => x)).trans hC13 (fun _ _ x => x)⟩
      · obtain ⟨A11, c11, SV2, rfl, e21, _⟩ := hW2.rowsC
        have hps2 : ps.take m = ps := List.take_of_length_le (by omega)
        have hm60 : m ≤ 60 := by omega
        have htk : (ps.take m).length = m := by rw [List.length_take]; omega
        have hKT := keeps_firm (gen := 9) (by decide) hF h5 (by omega) (ps.take m) keep torn
        have hT : TailAt w wr d ρ1 s A10 c10 A11 c11 (ps.take m) (ps.take m) := ⟨hD, hW, hW2, hO, hO2, by omega, by omega⟩
        obtain ⟨ws, hws⟩ : ∃ ws, ws = ps.take m := ⟨_, rfl⟩
        obtain ⟨ws2, hws2⟩ : ∃ ws2, ws2 = ps.take m := ⟨_, rfl⟩
        have hk1 : ws.length = m := by rw [hws]; exact htk
        have hk2 : ws2.length = m := by rw [hws2]; exact htk
        rw [htk]
        have hT' : TailAt w wr d ρ1 s A10 c10 A11 c11 ws ws2 := by rw [hws, hws2]; exact hT
        have hKT' : KeepsTo (s.crash keep torn) 9 ws ws2 torn := by rw [hws, hws2]; exact hKT
        clear hT hKT hD hF hW hW2 hO hO2 h5 e1 e2 e3 e4 e5 e21 hps2 htk hws hws2
        have hT := hT'
        have hKT := hKT'
        clear hT' hKT'
        obtain ⟨s2, hs2⟩ : ∃ s2, s2 = s := ⟨_, rfl⟩
        rw [← hs2] at hT hKT
        clear hs2
        have hcr := tail_crash keep torn k0 k1 hT
        have hcalm := hKT.1
        have hn192 := hKT.2.1
        have HKT := Lib.hid hKT.2.2
        clear hT hKT
        generalize s2.crash keep torn = s3 at *
        go_wp2_with fail
        refine hcr.mono ?_
        rintro e w6 ⟨rfl, ρ6, hT6⟩
        have hrp := tail_replay hcalm hn192 hT6
        clear hcr hT6
        go_wp2_with fail
        refine hrp.mono ?_
        rintro e w7 ⟨A7, k7, c7, rfl, hT7⟩
        have hkk := HKT.out k7 hT7.2.choose_spec.2.2.1 hT7.2.choose_spec.2.2.2.1 hT7.2.choose_spec.2.2.2.2
        clear hrp HKT
        by_cases q1 : recs s3 9 k7 = ws
        · have HE := Lib.hid (And.intro (decide_eq_true q1) (Eq.refl (decide (recs s3 9 k7 = ws2))))
          clear q1 hkk
          go_wp2_with (first | ((with_reducible refine (answers4 _).mono ?_); rintro e w8 ⟨rfl, hC8⟩; have t8 := hT7.keep hC8; have sa1 := t8.same1; rw [HE.out.1, hk1] at sa1; clear t8) | ((with_reducible refine sa1.mono ?_); rintro e w9 ⟨rfl, hC9⟩; have t9 := (hT7.keep hC8).keep hC9; have sc := t9.secs hcalm hn192; clear t9) | ((with_reducible refine sc.mono ?_); rintro e w11 ⟨A4, c4, rfl, hI4, hT11⟩; have hrc := records_any 9 A4 c4 _ w11 (by decide) (by decide) hI4) | ((with_reducible refine hrc.mono ?_); rintro e w12 ⟨v5, m5, rfl, hC12, hm5, hR5, hno5⟩; obtain ⟨A5, c5, rfl, hRR⟩ := hR5.rows hC12; have hsa := (hT11.keep hC12).same3 hm5 hR5 hRR hno5) | ((with_reducible refine hsa.mono ?_); rintro e w13 ⟨rfl, hC13⟩) | go_in)
          go_ret
          exact ⟨rfl, (hT11.1.1.ch.trans hC12 (fun _ _ x => x)).trans hC13 (fun _ _ x => x)⟩
        · by_cases q2 : recs s3 9 k7 = ws2
          · have HE := Lib.hid (And.intro (decide_eq_false q1) (decide_eq_true q2))
            clear q1 q2 hkk
            go_wp2_with (first | ((with_reducible refine (answers4 _).mono ?_); rintro e w8 ⟨rfl, hC8⟩; have t8 := hT7.keep hC8; have sa1 := t8.same1; rw [HE.out.1, hk1] at sa1; clear t8) | ((with_reducible refine sa1.mono ?_); rintro e w9 ⟨rfl, hC9⟩; have t9 := (hT7.keep hC8).keep hC9; have sc := t9.secs hcalm hn192; have sa2 := t9.same2; rw [HE.out.2, hk2] at sa2; clear t9) | ((with_reducible refine sa2.mono ?_); rintro e w10 ⟨rfl, hC10⟩; have t10 := ((hT7.keep hC8).keep hC9).keep hC10; have sc := t10.secs hcalm hn192; clear t10) | ((with_reducible refine sc.mono ?_); rintro e w11 ⟨A4, c4, rfl, hI4, hT11⟩; have hrc := records_any 9 A4 c4 _ w11 (by decide) (by decide) hI4) | ((with_reducible refine hrc.mono ?_); rintro e w12 ⟨v5, m5, rfl, hC12, hm5, hR5, hno5⟩; obtain ⟨A5, c5, rfl, hRR⟩ := hR5.rows hC12; have hsa := (hT11.keep hC12).same3 hm5 hR5 hRR hno5) | ((with_reducible refine hsa.mono ?_); rintro e w13 ⟨rfl, hC13⟩) | go_in)
            go_ret
            exact ⟨rfl, (hT11.1.1.ch.trans hC12 (fun _ _ x => x)).trans hC13 (fun _ _ x => x)⟩
          · have ht := (hkk.resolve_left q1).resolve_left q2
            have d1 : decide (0 < torn) = true := decide_eq_true ht.1
            have d2 : decide (torn < 64) = true := decide_eq_true ht.2
            have HE := Lib.hid (And.intro (decide_eq_false q1) (decide_eq_false q2))
            clear q1 q2 hkk ht
            go_wp2_with (first | ((with_reducible refine (answers4 _).mono ?_); rintro e w8 ⟨rfl, hC8⟩; have t8 := hT7.keep hC8; have sa1 := t8.same1; rw [HE.out.1, hk1] at sa1; clear t8) | ((with_reducible refine sa1.mono ?_); rintro e w9 ⟨rfl, hC9⟩; have t9 := (hT7.keep hC8).keep hC9; have sc := t9.secs hcalm hn192; have sa2 := t9.same2; rw [HE.out.2, hk2] at sa2; clear t9) | ((with_reducible refine sa2.mono ?_); rintro e w10 ⟨rfl, hC10⟩; have t10 := ((hT7.keep hC8).keep hC9).keep hC10; have sc := t10.secs hcalm hn192; clear t10) | ((with_reducible refine sc.mono ?_); rintro e w11 ⟨A4, c4, rfl, hI4, hT11⟩; have hrc := records_any 9 A4 c4 _ w11 (by decide) (by decide) hI4) | ((with_reducible refine hrc.mono ?_); rintro e w12 ⟨v5, m5, rfl, hC12, hm5, hR5, hno5⟩; obtain ⟨A5, c5, rfl, hRR⟩ := hR5.rows hC12; have hsa := (hT11.keep hC12).same3 hm5 hR5 hRR hno5) | ((with_reducible refine hsa.mono ?_); rintro e w13 ⟨rfl, hC13⟩) | go_in)
            go_ret
            exact ⟨rfl, (hT11.1.1.ch.trans hC12 (fun _ _ x => x)).trans hC13 (fun _ _ x => x)⟩
theorem u64b6 {n : Int} (h : (Lit.int .u64 n).wf = true) : 0 ≤ n ∧ n < 18446744073709551616 := by
  simp only [Lit.wf, Bool.and_eq_true, decide_eq_true_eq] at h
  have e1 : IntKind.u64.min = 0 := rfl
  have e2 : IntKind.u64.max = 18446744073709551615 := rfl
  omega
theorem i64b6 {n : Int} (h : (Lit.int .i64 n).wf = true) : -9223372036854775808 ≤ n ∧ n ≤ 9223372036854775807 := by
  simp only [Lit.wf, Bool.and_eq_true, decide_eq_true_eq] at h
  have e1 : IntKind.i64.min = -9223372036854775808 := rfl
  have e2 : IntKind.i64.max = 9223372036854775807 := rfl
  omega
theorem logCrash_row (a0 : Option Addr) (len0 cap0 : Nat) (z0 : List (List Int)) (a1 a2 a3 : Int) (W : World) (y0 : len0 ≤ 140737488351232) (hz0 : z0.length = len0) (w0 : RowsN W a0 z0) (b0 : ∀ p ∈ z0, ∀ x ∈ p, 0 ≤ x ∧ x ≤ 255) (w1 : (Lit.int .i64 a1).wf = true) (w2 : (Lit.int .u64 a2).wf = true) (w3 : (Lit.int .i64 a3).wf = true) :
    Calls Try.prog 10 #[.slice a0 len0 cap0, .int .i64 a1, .int .u64 a2, .int .i64 a3] W fun e w' => e = .returned (.bool true) ∧ Below W.heap.size W w' := by
  subst hz0
  exact (logCrash a0 cap0 z0 a1 a2 a3 W (u64b6 w2).1 (u64b6 w2).2 (i64b6 w1).2 b0 w0 y0).mono fun _ _ h => h.row
end Go.Proofs.Ytfjldlhboaeemaa.Log
