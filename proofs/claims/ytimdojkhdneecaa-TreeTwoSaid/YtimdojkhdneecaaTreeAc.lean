/- Trees: acts that came in; a table that is spoilt; what is free at the end. -/
import Derived.Test.YtimdojkhdneecaaTreeAa
import Derived.Test.YtimdojkhdneecaaHpE
namespace Go.Proofs.Ytimdojkhdneecaa.Tree
open Go.RowKit Go.Proofs.Ytimdojkhdneecaa.Hp Go.Proofs.Ytimdojkhdneecaa.Ram Go.Proofs.Ytimdojkhdneecaa.Word Go.Proofs.Ytimdojkhdneecaa.WordP Go.Proofs.Ytimdojkhdneecaa.Pool
set_option linter.unusedVariables false
set_option linter.unusedSimpArgs false
structure TAct where
  page : Int
  ent : Ent
def actC (x : TAct) : List Value := [.int .i64 x.page, .int .i64 x.ent.1, .int .i64 x.ent.2.1, .bool x.ent.2.2]
def TActAt (w : World) (ad : Addr) (i : Nat) (x : TAct) : Prop := ∀ j v, (actC x)[j]? = some v → w.cell? (ad.add (i * 4 + j)) = some v
def IsTActs (w : World) (A : Option Addr) (len cap : Nat) (X : Nat → TAct) : Prop := (A = none ∧ len = 0 ∧ cap = 0) ∨ ∃ ad, A = some ad ∧ len ≤ cap ∧ cap ≤ maxLen ∧ ∀ i, i < len → TActAt w ad i (X i)
section
variable {H : Type} {enc : TypeId × Value → H} {w : World} {base : Nat} {spare : Nat → Bool} {held : Bool}
theorem len3 : ∀ {l : List Value}, l.length = 3 → ∃ a b c, l = [a, b, c]
  | [a, b, c], _ => ⟨a, b, c, rfl⟩
theorem ent_of {fuel : Nat} {cs : List Value} {y : DataW H × List MemPlace} (h : DataW.trod enc Try.prog w base spare held fuel 33 cs = some y) : ∃ e : Ent, cs = [.int .i64 e.1, .int .i64 e.2.1, .bool e.2.2] := by
  obtain ⟨ys, n', hn', hy, hlen, hyl, hf⟩ := DataW.trod_struct Try.underlying33 h
  have hc : Try.prog.cellsOf 33 = 3 := by kernel_rfl
  have ci : Try.prog.cellsOf 3 = 1 := by kernel_rfl
  have cb : Try.prog.cellsOf 4 = 1 := by kernel_rfl
  rw [hc] at hlen
  obtain ⟨c0, c1, c2, rfl⟩ := len3 hlen
  have g0 : DataW.trod enc Try.prog w base spare held n' 3 ((([c0, c1, c2] : List Value).drop 0).take (Try.prog.cellsOf 3)) = ys[0]? := hf 0 _ rfl
  have g1 : DataW.trod enc Try.prog w base spare held n' 3 ((([c0, c1, c2] : List Value).drop 1).take (Try.prog.cellsOf 3)) = ys[1]? := hf 1 _ rfl
  have g2 : DataW.trod enc Try.prog w base spare held n' 4 ((([c0, c1, c2] : List Value).drop 2).take (Try.prog.cellsOf 4)) = ys[2]? := hf 2 _ rfl
  rw [ci] at g0 g1
  rw [cb] at g2
  have hl : ys.length = 3 := hyl
  obtain ⟨y0, e0⟩ : ∃ y0, ys[0]? = some y0 := ⟨_, List.getElem?_eq_getElem (by omega)⟩
  obtain ⟨y1, e1⟩ : ∃ y1, ys[1]? = some y1 := ⟨_, List.getElem?_eq_getElem (by omega)⟩
  obtain ⟨y2, e2⟩ : ∃ y2, ys[2]? = some y2 := ⟨_, List.getElem?_eq_getElem (by omega)⟩
  have h0 := g0.trans e0
  have h1 := g1.trans e1
  have h2 := g2.trans e2
  obtain ⟨n0, f0, -, -⟩ := DataW.trod_int Try.underlying3 h0
  obtain ⟨n1, f1, -, -⟩ := DataW.trod_int Try.underlying3 h1
  obtain ⟨b2, f2, -⟩ := DataW.trod_bool Try.underlying4 h2
  simp only [List.drop_zero, List.take_succ_cons, List.take_zero, List.drop_succ_cons, List.cons.injEq, and_true] at f0 f1 f2
  exact ⟨(n0, n1, b2), by rw [f0, f1, f2]⟩
theorem tact_of (l : List Value) (n : Nat) (hl : l.length = 4)
    (h0 : ∃ y, DataW.trod enc Try.prog w base spare held n 3 ((l.drop 0).take (Try.prog.cellsOf 3)) = some y) (h1 : ∃ y, DataW.trod enc Try.prog w base spare held n 33 ((l.drop 1).take (Try.prog.cellsOf 33)) = some y) : ∃ x : TAct, l = actC x := by
  rw [show Try.prog.cellsOf 3 = 1 by kernel_rfl] at h0
  rw [show Try.prog.cellsOf 33 = 3 by kernel_rfl] at h1
  match l, hl with
  | [c0, c1, c2, c3], _ =>
    obtain ⟨y0, h0⟩ := h0
    obtain ⟨y1, h1⟩ := h1
    obtain ⟨n0, e0, -, -⟩ := DataW.trod_int Try.underlying3 h0
    obtain ⟨x, ex⟩ := ent_of h1
    have f0 : c0 = .int .i64 n0 := by simpa using e0
    simp only [List.drop_succ_cons, List.drop_zero, List.take_succ_cons, List.take_zero, List.cons.injEq, and_true] at ex
    exact ⟨⟨n0, x⟩, by rw [f0, ex.1, ex.2.1, ex.2.2]; rfl⟩
theorem tacts_open {fuel : Nat} {x : DataW H × List MemPlace} {a : Option Addr} {len cap : Nat} (h : DataW.trod enc Try.prog w base spare held fuel 39 [.slice a len cap] = some x) (hsp : ∀ b, spare b = true) : ∃ X, IsTActs w a len cap X := by
  have hc : Try.prog.cellsOf 42 = 4 := by kernel_rfl
  rcases open_elems Try.underlying39 Try.underlying42 h with hcs | ⟨ad, l, c, hcs, hl, hm, hi⟩
  · simp at hcs
    obtain ⟨rfl, rfl, rfl⟩ := hcs
    exact ⟨fun _ => ⟨0, noE⟩, .inl ⟨rfl, rfl, rfl⟩⟩
  · simp at hcs
    obtain ⟨rfl, rfl, rfl⟩ := hcs
    have each : ∀ i, ∃ x : TAct, i < len → TActAt w ad i x := by
      intro i
      by_cases hil : i < len
      · obtain ⟨cs, n, hcl, hat, hf⟩ := hi i hil
        rw [hc] at hcl hat
        obtain ⟨x, e⟩ := tact_of (enc := enc) (w := w) (base := base) (spare := spare) (held := held) cs n hcl (hf 0 _ rfl) (hf 1 _ rfl)
        exact ⟨x, fun _ => fun j v hj => hat j v (by rw [e]; exact hj)⟩
      · exact ⟨⟨0, noE⟩, fun h => absurd h hil⟩
    exact ⟨fun i => (each i).choose, .inr ⟨ad, rfl, hl, hm, fun i hil => (each i).choose_spec hil⟩⟩
end
theorem TActAt.old {w w' : World} {ad : Addr} {i : Nat} {x : TAct} (h : TActAt w ad i x) (hc : Chg NoB w w') : TActAt w' ad i x :=
  fun j v hj => hc.cell (h j v hj) (fun x => x)
theorem TActAt.four {w : World} {ad : Addr} {i : Nat} {x : TAct} (h : TActAt w ad i x) : w.cell? (ad.add (i * 4)) = some (.int .i64 x.page) ∧ w.cell? ⟨(ad.add (i * 4)).block, (ad.add (i * 4)).off + 1, none⟩ = some (.int .i64 x.ent.1) ∧ w.cell? ⟨(ad.add (i * 4)).block, (ad.add (i * 4)).off + 2, none⟩ = some (.int .i64 x.ent.2.1) ∧ w.cell? ⟨(ad.add (i * 4)).block, (ad.add (i * 4)).off + 3, none⟩ = some (.bool x.ent.2.2) := by
  have h0 := h 0 _ rfl
  have h1 := h 1 _ rfl
  have h2 := h 2 _ rfl
  have h3 := h 3 _ rfl
  rw [add_field _ _ _ (by omega)] at h1 h2 h3
  exact ⟨h0, h1, h2, h3⟩
/-! ### the end -/
theorem spoil_at {w0 w : World} {p b bi : Nat} {S : PS} (f : Nat) (h : PL w0 w p b bi S) (hf : f < 1024) (hu : S.U f = 2) : Calls Try.prog 22 #[.pointer (some ⟨p, 0, none⟩), .int .i64 (f : Int)] w fun e w' => e = .returned (.bool true) ∧ PL w0 w' p b bi (useF S f 6) ∧ Chg (fun i => i = p ∨ i = bi) w w' := by
  refine (spoil_any p b bi S.U S.Z S.I _ f w h.at_).mono ?_
  intro e w1 hp
  rcases hp with ⟨g, rfl, rfl⟩ | ⟨g, rfl, h1, h2⟩
  · exact absurd (show (0 ≤ (f : Int) ∧ (f : Int) < 1024) ∧ S.U (f : Int).toNat ≠ 6 from ⟨⟨by omega, by omega⟩, by rw [Int.toNat_natCast, hu]; omega⟩) g
  · refine ⟨rfl, ?_, h2⟩
    rw [Int.toNat_natCast] at h1
    have hs := freeL_set S.U f 6 hf
    rw [if_neg (by decide)] at hs
    rw [hs] at h1
    exact h.go (S' := useF S f 6) h1 h2
theorem freeAll_U (S : PS) : ∀ own : List Nat, (∀ f, f ∈ own → f < 1024) → own.Nodup → ∀ g, (freeAll S own).U g = if g ∈ own ∧ 2 ≤ S.U g ∧ S.U g ≤ 5 then 1 else S.U g := by
  intro own
  induction own generalizing S with
  | nil => intro _ _ g; exact (if_neg (fun x => by simp at x)).symm
  | cons a l ih =>
    intro hlt hnd g
    have hn := List.nodup_cons.mp hnd
    have e : freeAll S (a :: l) = freeAll (S.free (a : Int)) l := by unfold freeAll; rw [List.foldl_cons]
    rw [e, ih (S.free (a : Int)) (fun f hf => hlt f (List.mem_cons_of_mem _ hf)) hn.2 g]
    have hU : ∀ x, (S.free (a : Int)).U x = if x = a ∧ 2 ≤ S.U a ∧ S.U a ≤ 5 then 1 else S.U x := fun x => by
      have hua : S.use (a : Int) = S.U a := by
        show useD S.U (a : Int) = _
        unfold useD
        rw [if_pos ⟨by omega, by have := hlt a (by simp); omega⟩, Int.toNat_natCast]
      unfold PS.free
      by_cases c : 2 ≤ S.U a ∧ S.U a ≤ 5
      · have hb : S.freeB (a : Int) = true := by unfold PS.freeB; rw [hua]; exact decide_eq_true c
        rw [hb, if_pos rfl, Int.toNat_natCast]
        show Pool.upd S.U a 1 x = _
        unfold Pool.upd
        by_cases c2 : x = a
        · rw [if_pos c2, if_pos ⟨c2, c⟩]
        · rw [if_neg c2, if_neg (fun y => c2 y.1)]
      · have hb : S.freeB (a : Int) = false := by unfold PS.freeB; rw [hua]; exact decide_eq_false c
        rw [hb, if_neg (by decide), if_neg (fun y => c y.2)]
    by_cases c : g = a
    · subst c
      rw [if_neg (fun x => hn.1 x.1), hU g]
      by_cases c2 : 2 ≤ S.U g ∧ S.U g ≤ 5
      · rw [if_pos ⟨rfl, c2⟩, if_pos ⟨by simp, c2⟩]
      · rw [if_neg (fun x => c2 x.2), if_neg (fun x => c2 x.2)]
    · have hg : (S.free (a : Int)).U g = S.U g := by rw [hU g, if_neg (fun x => c x.1)]
      rw [hg]
      by_cases c2 : g ∈ l ∧ 2 ≤ S.U g ∧ S.U g ≤ 5
      · rw [if_pos c2, if_pos ⟨List.mem_cons_of_mem _ c2.1, c2.2⟩]
      · rw [if_neg c2, if_neg (fun x => c2 ⟨(List.mem_cons.mp x.1).resolve_left c, x.2⟩)]
/-- all is free again -/
theorem free_end {S : PS} {own : List Nat} (hd : own.Nodup) (hu : ∀ f, f ∈ own → f < 1024 ∧ S.U f = 2) : freeN (freeAll S own) = capN S own := by
  have e : (fun f => decide ((freeAll S own).U f = 1)) = (fun f => decide (S.U f = 1 ∨ f ∈ own)) := funext fun f => by
    rw [decide_eq_decide, freeAll_U S own (fun f hf => (hu f hf).1) hd f]
    by_cases c : f ∈ own
    · rw [if_pos ⟨c, by rw [(hu f c).2]; exact ⟨by decide, by decide⟩⟩]
      exact ⟨fun _ => .inr c, fun _ => rfl⟩
    · rw [if_neg (fun x => c x.1)]
      exact ⟨fun x => .inl x, fun x => x.resolve_right c⟩
  have e2 : (List.range 1024).filter (fun f => decide (InA S own f)) = (List.range 1024).filter (fun f => decide (S.U f = 1 ∨ f ∈ own)) := by
    refine List.filter_congr fun f hf => ?_
    rw [decide_eq_decide]
    exact ⟨fun x => x.2, fun x => ⟨List.mem_range.mp hf, x⟩⟩
  unfold freeN capN
  rw [e, e2]
/-- all but the one that was spoilt -/
theorem free_lost {S : PS} {own : List Nat} {f : Nat} (hd : own.Nodup) (hu : ∀ f, f ∈ own → f < 1024 ∧ S.U f = 2) (hf : f ∈ own) : freeN (freeAll (useF S f 6) own) + 1 = capN S own := by
  have hU : ∀ g, (useF S f 6).U g = if g = f then 6 else S.U g := fun g => rfl
  have hp : ((List.range 1024).filter (fun g => decide (InA S own g))).Perm (f :: (List.range 1024).filter (fun g => decide ((freeAll (useF S f 6) own).U g = 1))) := by
    have key : ∀ g, (freeAll (useF S f 6) own).U g = 1 ↔ g ≠ f ∧ (S.U g = 1 ∨ g ∈ own) := fun g => by
      rw [freeAll_U _ own (fun f hf => (hu f hf).1) hd g, hU g]
      by_cases c : g = f
      · subst c
        rw [if_pos rfl, if_neg (fun x => by have := x.2.2; omega)]
        exact ⟨fun x => by omega, fun x => absurd rfl x.1⟩
      · rw [if_neg c]
        by_cases c2 : g ∈ own
        · rw [if_pos ⟨c2, by rw [(hu g c2).2]; exact ⟨by decide, by decide⟩⟩]
          exact ⟨fun _ => ⟨c, .inr c2⟩, fun _ => rfl⟩
        · rw [if_neg (fun x => c2 x.1)]
          exact ⟨fun x => ⟨c, .inl x⟩, fun x => x.2.resolve_right c2⟩
    refine (List.perm_ext_iff_of_nodup (List.nodup_range.filter _) ?_).mpr fun g => ?_
    · rw [List.nodup_cons]
      refine ⟨fun x => ?_, List.nodup_range.filter _⟩
      rw [List.mem_filter, decide_eq_true_eq, key] at x
      exact x.2.1 rfl
    · rw [List.mem_cons, List.mem_filter, List.mem_filter, List.mem_range, decide_eq_true_eq, decide_eq_true_eq, key]
      constructor
      · rintro ⟨h1, _, h2⟩
        by_cases c : g = f
        · exact .inl c
        · exact .inr ⟨h1, c, h2⟩
      · rintro (rfl | ⟨h1, _, h2⟩)
        · exact ⟨(hu g hf).1, (hu g hf).1, .inr hf⟩
        · exact ⟨h1, h1, h2⟩
  unfold freeN capN
  rw [hp.length_eq, List.length_cons]
end Go.Proofs.Ytimdojkhdneecaa.Tree
