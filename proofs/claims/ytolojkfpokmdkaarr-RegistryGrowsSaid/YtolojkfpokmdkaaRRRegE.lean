/- Chapter 7: what lasts, and Open. -/
import Derived.Test.YtolojkfpokmdkaaRRRegD
namespace Go.Proofs.YtolojkfpokmdkaaRR.Reg
open Go.RowKit Go.Proofs.YtolojkfpokmdkaaRR.Hp Go.Proofs.YtolojkfpokmdkaaRR.By Go.Proofs.YtolojkfpokmdkaaRR.Disk Go.Proofs.YtolojkfpokmdkaaRR.Word Go.Proofs.YtolojkfpokmdkaaRR.WordP Go.Proofs.YtolojkfpokmdkaaRR.Log Go.Proofs.YtolojkfpokmdkaaRR.Slot Go.Proofs.YtolojkfpokmdkaaRR.Jour
set_option linter.unusedVariables false
set_option linter.unusedSimpArgs false
/-- nothing beyond the frames and the sections -/
structure Canon (x : RSt) : Prop where
  hb : ∀ f, 1024 ≤ f → x.bad f = false
  hs : ∀ s, 32 ≤ s → x.st s = 0
  ok : StOk x.st
theorem Canon.zero : Canon RSt.zero := ⟨fun _ _ => rfl, fun _ _ => rfl, fun _ _ => ⟨by show (0 : Int) ≤ 0; decide, by show (0 : Int) ≤ 3; decide⟩⟩
theorem Canon.app {x : RSt} (h : Canon x) {y : Rec} (hy : y.ok) : Canon (x.app y) := by
  cases y with
  | bads l =>
    refine ⟨fun f hf => ?_, h.hs, h.ok⟩
    show (x.bad f || decide (f ∈ l)) = false
    rw [h.hb f hf, Bool.false_or, decide_eq_false_iff_not]
    exact fun e => by have := hy.2 f e; omega
  | state s n =>
    refine ⟨h.hb, fun q hq => ?_, fun q hq => ?_⟩
    · show (if q = s then (n : Int) else x.st q) = 0
      rw [if_neg (by have := hy.1; omega)]
      exact h.hs q hq
    · show 0 ≤ (if q = s then (n : Int) else x.st q) ∧ (if q = s then (n : Int) else x.st q) ≤ 3
      by_cases c : q = s
      · rw [if_pos c]; have := hy.2; omega
      · rw [if_neg c]; exact h.ok q hq
theorem Canon.same {x : RSt} (h : Canon x) : (⟨fun f => decide (f < 1024) && x.bad f, fun s => if s < 32 then x.st s else 0⟩ : RSt) = x := by
  obtain ⟨bad, st⟩ := x
  have e1 : (fun f => decide (f < 1024) && bad f) = bad := funext fun f => by
    by_cases c : f < 1024
    · rw [decide_eq_true c, Bool.true_and]
    · rw [decide_eq_false c, Bool.false_and]; exact (h.hb f (by omega)).symm
  have e2 : (fun s => if s < 32 then st s else 0) = st := funext fun s => by
    by_cases c : s < 32
    · rw [if_pos c]
    · rw [if_neg c]; exact (h.hs s (by omega)).symm
  show (⟨fun f => decide (f < 1024) && bad f, fun s => if s < 32 then st s else 0⟩ : RSt) = ⟨bad, st⟩
  rw [e1, e2]
/-- a base and records that say this -/
def HoldsR (bs : List Int) (rs : List Rec) (x : RSt) : Prop := (∀ y, y ∈ rs → y.ok) ∧ ∃ x0, Canon x0 ∧ ((bs = [] ∧ x0 = RSt.zero) ∨ bs = baseB x0) ∧ x = rs.foldl RSt.app x0
def Holds (bs : List Int) (ws : List (List Int)) (x : RSt) : Prop := ∃ rs, ws = rs.map Rec.bytes ∧ HoldsR bs rs x
theorem fold_canon : ∀ (rs : List Rec) (x0 : RSt), Canon x0 → (∀ y, y ∈ rs → y.ok) → Canon (rs.foldl RSt.app x0)
  | [], x0, h, _ => h
  | y :: rs, x0, h, hr => fold_canon rs (x0.app y) (h.app (hr y (List.mem_cons_self ..))) fun z hz => hr z (List.mem_cons_of_mem _ hz)
theorem Holds.canon {bs : List Int} {ws : List (List Int)} {x : RSt} (h : Holds bs ws x) : Canon x := by
  obtain ⟨rs, _, h1, x0, h2, _, rfl⟩ := h
  exact fold_canon rs x0 h2 h1
theorem Holds.new : Holds [] [] RSt.zero := ⟨[], rfl, fun y hy => (by cases hy), RSt.zero, Canon.zero, .inl ⟨rfl, rfl⟩, rfl⟩
theorem Holds.base {x : RSt} (h : Canon x) : Holds (baseB x) [] x := ⟨[], rfl, fun y hy => (by cases hy), x, h, .inr rfl, rfl⟩
theorem Holds.snoc {bs : List Int} {ws : List (List Int)} {x : RSt} (h : Holds bs ws x) {y : Rec} (hy : y.ok) : Holds bs (ws ++ [y.bytes]) (x.app y) := by
  obtain ⟨rs, rfl, h1, x0, h2, h3, rfl⟩ := h
  refine ⟨rs ++ [y], by rw [List.map_append]; rfl, fun z hz => ?_, x0, h2, h3, by rw [List.foldl_append]; rfl⟩
  rcases List.mem_append.mp hz with e | e
  · exact h1 z e
  · rw [List.mem_singleton] at e; subst e; exact hy
/-- the records, and their room -/
theorem LRows.cap {w : World} {base : Nat} {v : Value} {bs : List (List Int)} (h : LRows w base v bs) : ∃ A c, v = .slice A bs.length c ∧ ∀ j, j < bs.length → ∃ ad B cB, A = some ad ∧ w.cell? (ad.add j) = some (.slice B (bs.getD j []).length cB) ∧ Rd w .u8 B (bs.getD j []) ∧ (bs.getD j []).length ≤ cB ∧ ∀ b, B = some b → b.block < w.heap.size := by
  obtain ⟨SVs, hown, hels⟩ := h
  obtain ⟨A, c, hv, hc⟩ := own_cells hown
  refine ⟨A, c, hv, fun j hj => ?_⟩
  obtain ⟨g, c', l, e1, ⟨vv, e2⟩, _, e4, e5⟩ := hels j hj
  obtain ⟨ad, e, hcell⟩ := hc j _ e1
  refine ⟨ad, _, c', e, hcell, cut_rd e2 e4 e5.1, e5.2, fun b hb => ?_⟩
  obtain ⟨_, _, cap, C, _, _, hblk, _⟩ := e2
  obtain rfl := Option.some.inj hb
  exact blt hblk
/-- the disk that lasts -/
structure DReg (s : DSt) (f : Nat → List Int) (gen : Int) (bs : List Int) (ws : List (List Int)) (x : RSt) : Prop where
  firm : Firm s f ∧ LenF f
  calm : Disk.Calm s
  two : Two f gen bs
  log : LogOk f gen ws
  says : Holds bs ws x
/-- a registry beside its disk -/
structure RegAt (w0 w : World) (r j bm d : Nat) (ρ : Nat → Nat) (s : DSt) (gen : Int) (n : Nat) (x : RSt) (K : Nat) : Prop where
  jl : JL w0 w j d ρ s gen n false
  rm : RM w r j bm x K
  ne : (ρ r = 0 ∧ ρ bm = 0) ∧ r ≠ j ∧ bm ≠ j
  nw : w0.heap.size ≤ r ∧ w0.heap.size ≤ bm
theorem RegAt.keep {w0 w w' : World} {r j bm d : Nat} {ρ : Nat → Nat} {s : DSt} {gen : Int} {n : Nat} {x : RSt} {K : Nat} (h : RegAt w0 w r j bm d ρ s gen n x K) (hc : Chg NoB w w') : RegAt w0 w' r j bm d ρ s gen n x K :=
  ⟨h.jl.keep hc, h.rm.chg hc (fun e => e) (fun e => e), h.ne, h.nw⟩
/-- memory alone: for Bad and State -/
theorem RM.keepO {w w' : World} {r j bm K : Nat} {x : RSt} {ρ : Nat → Nat} (h : RM w r j bm x K) (hc : Chg (Own ρ) w w') (hr : ρ r = 0) (hb : ρ bm = 0) : RM w' r j bm x K := h.chg hc (fun e => e hr) (fun e => e hb)
def OpRel (w : World) (r j bm : Nat) (rs : List Rec) (x0 : RSt) (i : Value) (wr : World) : Prop :=
  ∃ k : Nat, k ≤ rs.length ∧ i = .int .i64 (k : Int) ∧ RM wr r j bm ((rs.take k).foldl RSt.app x0) (1 + 20 * k) ∧ Chg (RX r bm) w wr
def OpPost (w0 w : World) (d : Nat) (ρ : Nat → Nat) (s : DSt) (gen : Int) (n : Nat) (x : RSt) (e : Ending) (w' : World) : Prop :=
  ∃ r j bm, e = .returned (.tuple #[.pointer (some ⟨r, 0, none⟩), .int .i64 0]) ∧ RegAt w0 w' r j bm d ρ s gen n x 2000 ∧ Chg (Own ρ) w w' ∧ w.heap.size ≤ r ∧ w.heap.size ≤ bm
theorem open_nil (w : World) : Calls Try.prog 7 #[.pointer none] w fun e w' => e = .returned (.tuple #[.pointer none, .int .i64 1]) ∧ w = w' := by
  go_enter Try.func7, Try.ntmps7
  go_wp2_with fail
  refine (jopen_nil _).mono ?_
  rintro e w1 ⟨rfl, rfl⟩
  go_wp2_with fail
  go_ret2
  exact ⟨rfl, rfl⟩
theorem DL.sides {S : Nat → Prop} {w0 w w' : World} {d : Nat} {ρ : Nat → Nat} {s : DSt} (h : DL w0 w d ρ s) (hc : Chg S w w') (hS : ∀ i, S i → ρ i = 0 ∧ w0.heap.size ≤ i) : DL w0 w' d ρ s :=
  ⟨h.at_.chg hc (fun i hi x => hi (hS i x).1), h.ch.trans hc (fun i hi hh => by have := (hS i hh).2; omega), h.nw⟩
theorem JL.sides {S : Nat → Prop} {w0 w w' : World} {j d : Nat} {ρ : Nat → Nat} {s : DSt} {gen n : Int} {br : Bool} (h : JL w0 w j d ρ s gen n br) (hc : Chg S w w') (hS : ∀ i, S i → ρ i = 0 ∧ w0.heap.size ≤ i ∧ i ≠ j) : JL w0 w' j d ρ s gen n br :=
  ⟨DL.sides h.1 hc (fun i hi => ⟨(hS i hi).1, (hS i hi).2.1⟩), hc.blk (show Blk w j _ _ from h.2.1) (fun x => (hS j x).2.2 rfl), h.2.2⟩
theorem reb_any {w : World} {r j bm : Nat} (h : RM w r j bm RSt.zero 0) {bs : List Int} {x0 : RSt} (hx : Canon x0) (hbs : (bs = [] ∧ x0 = RSt.zero) ∨ bs = baseB x0) (A : Option Addr) (c : Nat) (hr : Rd w .u8 A bs) (hfar : 0 < bs.length → Far A r bm) (hc : bs.length ≤ c) :
    Calls Try.prog 18 #[.pointer (some ⟨r, 0, none⟩), .slice A bs.length c] w (ApplyPost w r j bm x0 1) := by
  rcases hbs with ⟨rfl, rfl⟩ | rfl
  · refine (rebuilt_nil r A c).mono ?_
    rintro e w' ⟨rfl, rfl⟩
    exact ⟨rfl, h.up (by decide), Chg.refl _ _⟩
  · rw [base_len] at hc ⊢
    have hh := rebuilt_any h x0 hx.ok A c hr (hfar (by rw [base_len]; decide)) hc
    rw [hx.same] at hh
    exact hh
theorem rb_new {w : World} {j bm : Nat} {C : Array Value} {r : Nat} (hb : Blk w r C 54) (hC : C.toList = .pointer (some ⟨j, 0, none⟩) :: .map (some bm) :: List.replicate 32 (.int .i64 0)) : RB w r j bm RSt.zero.st := by
  obtain ⟨L⟩ := C
  have hC' : L = .pointer (some ⟨j, 0, none⟩) :: .map (some bm) :: List.replicate 32 (.int .i64 0) := hC
  subst hC'
  refine ⟨_, hb, by simp, by simp, by simp, fun s hs => ?_⟩
  rw [Nat.add_comm, List.getElem?_toArray]
  show (List.replicate 32 (Value.int .i64 0))[s]? = _
  rw [List.getElem?_replicate, if_pos hs]
  rfl
/-- what a journal gives -/
def JOp (w0 w : World) (d : Nat) (ρ : Nat → Nat) (s : DSt) (gen : Int) (bs : List Int) (rs : List Rec) (e : Ending) (w' : World) : Prop :=
  ∃ j A0 c0 A c, e = .returned (.tuple #[.pointer (some ⟨j, 0, none⟩), .slice A0 bs.length c0, .slice A rs.length c, .int .i64 0]) ∧ JL w0 w' j d ρ s gen rs.length false ∧ Chg (Own ρ) w w' ∧ (bs.length ≤ c0 ∧ Rd w' .u8 A0 bs) ∧
    ∀ k y, rs[k]? = some y → ∃ ad B cB, A = some ad ∧ w'.cell? (ad.add k) = some (.slice B y.bytes.length cB) ∧ Rd w' .u8 B y.bytes ∧ y.bytes.length ≤ cB ∧ ∀ b, B = some b → b.block < w'.heap.size
theorem jop_any {w0 w : World} {d : Nat} {ρ : Nat → Nat} {s : DSt} {f : Nat → List Int} {gen : Int} {bs : List Int} {rs : List Rec} (h : DL w0 w d ρ s) (hS : Slot.Says s f) (hT : Two f gen bs) (hg : gen < 4294967296) (hL : LogOk f gen (rs.map Rec.bytes)) :
    Calls Try.prog 17 #[.pointer (some ⟨d, 0, none⟩)] w (JOp w0 w d ρ s gen bs rs) := by
  refine (jopen_any h hS).mono ?_
  rintro e w1 ⟨j, vb, A, k, c, rfl, hJ, hC, ⟨A0, c0, rfl, o1, o2, o3, o4, o5⟩, hR, hk, q1, q2, g1, g2⟩
  rw [two_load hT hg] at hJ hR q1 q2 o1 o2 ⊢
  dsimp only at hJ hR q1 q2 o1 o2 ⊢
  have hlen : (rs.map Rec.bytes).length = rs.length := List.length_map _
  have hkn : k = rs.length := by
    rw [← hlen]
    refine stop_at hS hk q1 q2 _ hL.1 (fun i hi => by rw [log_some hL i hi]; rfl) ?_
    exact log_none ⟨hT.1, hg⟩ hL
  subst hkn
  have hrec := log_recs hL hS
  rw [hlen] at hrec
  rw [hrec] at hR
  obtain ⟨A', c', hv, hcap⟩ := LRows.cap hR
  injection hv with e1 e2 e3
  subst e1
  refine ⟨j, A0, c0, A, c, rfl, hJ, hC, ⟨o1, o2⟩, fun i y hy => ?_⟩
  have hi : i < rs.length := (List.getElem?_eq_some_iff.mp hy).1
  obtain ⟨ad, B, cB, a1, a2, a3, a4, a5⟩ := hcap i (by rw [hlen]; exact hi)
  have ey : (rs.map Rec.bytes).getD i [] = y.bytes := by rw [List.getD_eq_getElem?_getD, List.getElem?_map, hy]; rfl
  rw [ey] at a2 a3 a4
  exact ⟨ad, B, cB, a1, a2, a3, a4, a5⟩
set_option maxRecDepth 100000 in
set_option maxHeartbeats 4000000 in
theorem open_any {w0 w : World} {d : Nat} {ρ : Nat → Nat} {s : DSt} {f : Nat → List Int} {gen : Int} {bs : List Int} {ws : List (List Int)} {x : RSt} (h : DL w0 w d ρ s) (hS : Slot.Says s f) (hT : Two f gen bs) (hg : gen < 4294967296) (hL : LogOk f gen ws) (hH : Holds bs ws x) :
    Calls Try.prog 7 #[.pointer (some ⟨d, 0, none⟩)] w (OpPost w0 w d ρ s gen ws.length x) := by
  obtain ⟨rs, rfl, hok, xz, hx0, hbs, rfl⟩ := hH
  have hl : rs.length ≤ 64 := by have := hL.1; rwa [List.length_map] at this
  have hj := jop_any h hS hT hg hL
  have hρ := own_lt_size h
  have hz := h.ch.size
  rw [List.length_map]
  have H := Lib.hid (And.intro hok (And.intro hx0 (And.intro hbs (And.intro hρ hz))))
  clear h hS hT hL hok hx0 hbs hρ hz
  obtain ⟨n, hn⟩ : ∃ n, n = rs.length := ⟨_, rfl⟩
  have HN := Lib.hid hn
  have hn64 : n ≤ 64 := by omega
  have hmm := @run_makeMap Try.prog
  go_enter Try.func7, Try.ntmps7
  go_wp2_with fail
  refine hj.mono ?_
  rintro e w1 ⟨j, A0, c0, A, c, rfl, hJ, hC, ⟨hc0, hr0⟩, hrec⟩
  rw [← hn] at hJ ⊢
  clear hn
  go_wp2_with fail
  have hW : RM ((w1.alloc (.map #[] 0)).alloc (.cells #[.pointer (some ⟨j, 0, none⟩), .map (some w1.heap.size), .int .i64 0, .int .i64 0, .int .i64 0, .int .i64 0, .int .i64 0, .int .i64 0, .int .i64 0, .int .i64 0, .int .i64 0, .int .i64 0, .int .i64 0, .int .i64 0, .int .i64 0, .int .i64 0, .int .i64 0, .int .i64 0, .int .i64 0, .int .i64 0, .int .i64 0, .int .i64 0, .int .i64 0, .int .i64 0, .int .i64 0, .int .i64 0, .int .i64 0, .int .i64 0, .int .i64 0, .int .i64 0, .int .i64 0, .int .i64 0, .int .i64 0, .int .i64 0] 54)) (w1.heap.size + 1) j w1.heap.size RSt.zero 0 ∧ Chg NoB w1 ((w1.alloc (.map #[] 0)).alloc (.cells #[.pointer (some ⟨j, 0, none⟩), .map (some w1.heap.size), .int .i64 0, .int .i64 0, .int .i64 0, .int .i64 0, .int .i64 0, .int .i64 0, .int .i64 0, .int .i64 0, .int .i64 0, .int .i64 0, .int .i64 0, .int .i64 0, .int .i64 0, .int .i64 0, .int .i64 0, .int .i64 0, .int .i64 0, .int .i64 0, .int .i64 0, .int .i64 0, .int .i64 0, .int .i64 0, .int .i64 0, .int .i64 0, .int .i64 0, .int .i64 0, .int .i64 0, .int .i64 0, .int .i64 0, .int .i64 0, .int .i64 0, .int .i64 0] 54)) := by
    have c1 : Chg NoB w1 (w1.alloc (.map #[] 0)) := (Chg.refl NoB w1).alloc _
    have c2 : Chg NoB (w1.alloc (.map #[] 0)) ((w1.alloc (.map #[] 0)).alloc (.cells #[.pointer (some ⟨j, 0, none⟩), .map (some w1.heap.size), .int .i64 0, .int .i64 0, .int .i64 0, .int .i64 0, .int .i64 0, .int .i64 0, .int .i64 0, .int .i64 0, .int .i64 0, .int .i64 0, .int .i64 0, .int .i64 0, .int .i64 0, .int .i64 0, .int .i64 0, .int .i64 0, .int .i64 0, .int .i64 0, .int .i64 0, .int .i64 0, .int .i64 0, .int .i64 0, .int .i64 0, .int .i64 0, .int .i64 0, .int .i64 0, .int .i64 0, .int .i64 0, .int .i64 0, .int .i64 0, .int .i64 0, .int .i64 0] 54)) := (Chg.refl NoB _).alloc _
    exact ⟨⟨rb_new (bnew' (by simp) _) (by rfl), _, (MapAt.new w1).chg c2 (fun x => x), MapOk.zero⟩, c1.trans c2 (fun _ _ x => x)⟩
  generalize ((w1.alloc (.map #[] 0)).alloc (.cells #[.pointer (some ⟨j, 0, none⟩), .map (some w1.heap.size), .int .i64 0, .int .i64 0, .int .i64 0, .int .i64 0, .int .i64 0, .int .i64 0, .int .i64 0, .int .i64 0, .int .i64 0, .int .i64 0, .int .i64 0, .int .i64 0, .int .i64 0, .int .i64 0, .int .i64 0, .int .i64 0, .int .i64 0, .int .i64 0, .int .i64 0, .int .i64 0, .int .i64 0, .int .i64 0, .int .i64 0, .int .i64 0, .int .i64 0, .int .i64 0, .int .i64 0, .int .i64 0, .int .i64 0, .int .i64 0, .int .i64 0, .int .i64 0] 54)) = W at *
  obtain ⟨hM, hCW⟩ := hW
  have bmr : w1.heap.size < W.heap.size := hM.lt.2
  generalize hr : w1.heap.size + 1 = r at *
  generalize hbm : w1.heap.size = bm at *
  have hfar : ∀ B : Option Addr, (∀ b, B = some b → b.block < bm) → Far B r bm := fun B hB b e => by have := hB b e; omega
  have hreb := reb_any hM H.out.2.1 H.out.2.2.1 A0 c0 (hr0.chg hCW (fun _ _ _ x => x)) (fun hp => hfar _ (fun b e => by have := hr0.lt hp b e; omega)) hc0
  have HJ := Lib.hid (And.intro hJ (And.intro hC (And.intro hrec (And.intro hCW (And.intro hr hbm)))))
  clear hmm hj hM hr0 hrec hCW hJ hC hr hbm hc0
  refine hreb.mono ?_
  rintro e w2 ⟨rfl, hM, hC2⟩
  have hB : OpRel W r j bm rs xz (.int .i64 0) w2 := ⟨0, Nat.zero_le _, rfl, hM, hC2⟩
  clear hreb hM hC2
  go_wp2_with fail
  go_loopw [31] (fun i wr => OpRel W r j bm rs xz i wr) (fun i wr => n - (intOf i).toNat)
  case atStart => exact hB
  case round =>
    clear hB
    obtain ⟨k, hk, rfl, hM, hC⟩ := hrel
    have hn := HN.out
    rcases Nat.eq_or_lt_of_le hk with hk2 | hk2
    · have e0 : decide ((k : Int) < (n : Int)) = false := decide_eq_false (by omega)
      have e1 : decide (k < n) = false := decide_eq_false (by omega)
      have F := Lib.hid (show OpPost w0 w d ρ s gen n (List.foldl RSt.app xz rs) (.returned (.tuple #[.pointer (some ⟨r, 0, none⟩), .int .i64 0])) wr from by
        obtain ⟨hJ, hCw, _, hCW, hr, hbm⟩ := HJ.out
        rw [hk2, List.take_length] at hM
        have hzz := hCw.size
        have hz0 := H.out.2.2.2.2
        have hρ : ∀ i, w.heap.size ≤ i → ρ i = 0 := fun i hi => by
          by_cases c : ρ i = 0
          · exact c
          · have := H.out.2.2.2.1 i c; omega
        have hjl := blt (show Blk w1 j _ _ from hJ.2.1)
        refine ⟨r, j, bm, rfl, ⟨JL.sides (JL.keep hJ hCW) hC (fun i hi => ?_), hM.up (by omega), ⟨⟨hρ r (by omega), hρ bm (by omega)⟩, by omega, by omega⟩, by omega, by omega⟩, (hCw.trans hCW (fun _ _ x => x.elim)).trans hC (fun i hi x => ?_), by omega, by omega⟩
        · rcases hi with rfl | rfl
          · exact ⟨hρ _ (by omega), by omega, by omega⟩
          · exact ⟨hρ _ (by omega), by omega, by omega⟩
        · rcases x with rfl | rfl <;> omega)
      clear hM hC hk hk2 hn H HJ
      go_wp2_with fail
      (try simp only [Exit.inBlock, Exit.then])
      refine bodyPost_ret (results_tmp2 rfl _ _ _) rfl ?_
      have F' := F.out
      rw [HN.out] at F'
      exact F'
    · obtain ⟨y, hy⟩ : ∃ y, rs[k]? = some y := ⟨_, List.getElem?_eq_getElem hk2⟩
      have hyo := H.out.1 y (List.mem_of_getElem? hy)
      have e0 : decide ((k : Int) < (n : Int)) = true := decide_eq_true (by omega)
      have e1 : decide (k < n) = true := decide_eq_true (by omega)
      have i1 : (k : Int) < (n : Int) := by omega
      have i2 : k < n := by omega
      obtain ⟨ad, B, cB, a1, a2, a3, a4, a5⟩ := HJ.out.2.2.1 k y hy
      subst a1
      have hfB := hfar B (fun b e => by have := a5 b e; have := HJ.out.2.2.2.2.2; omega)
      have hadl := World.block_lt_of_cell? w1 _ a2
      rw [add_block'] at hadl
      have hadr : ¬ RX r bm ad.block := fun x => by
        have h1 := HJ.out.2.2.2.2.1
        have h2 := HJ.out.2.2.2.2.2
        rcases x with x | x <;> omega
      have x0 := hC.cell (HJ.out.2.2.2.1.cell a2 (fun x => x)) (by rw [add_block']; exact hadr)
      have hrB := (a3.chg HJ.out.2.2.2.1 (fun _ _ _ x => x)).chg hC (fun hp b e x => by
        have := hfB b e
        rcases x with x | x
        · exact this.1 x
        · exact this.2 x)
      have hap := apply_any hM y hyo (by omega) B cB hrB hfB a4
      have hsz : y.size ≤ 20 := by
        cases y with
        | bads l => exact hyo.1.2
        | state _ _ => exact Nat.zero_le _
      have FI := Lib.hid (show ∀ w6, ApplyPost wr r j bm (((rs.take k).foldl RSt.app xz).app y) (1 + 20 * k + y.size) (.returned (.bool true)) w6 → OpRel W r j bm rs xz (.int .i64 ((k : Int) + 1)) w6 from fun w6 h6 => by
        obtain ⟨_, h7, h8⟩ := h6
        refine ⟨k + 1, hk2, rfl, ?_, hC.trans h8 (fun _ _ x => x)⟩
        rw [List.take_add_one, hy, List.foldl_append]
        exact h7.up (by omega))
      have hms := Lib.hid (show n - ((k : Int) + 1).toNat < n - (k : Int).toNat by omega)
      clear hM hC hk hk2 hn a2 a3 a4 a5 hfB hadl hadr hrB hy hyo hsz H HJ
      generalize y.bytes.length = lb at *
      go_wp2_with fail
      refine hap.mono ?_
      rintro e w6 ⟨rfl, h7⟩
      clear hap
      go_wp2_with fail
      exact ⟨FI.out _ ⟨rfl, h7⟩, hms.out⟩
end Go.Proofs.YtolojkfpokmdkaaRR.Reg
