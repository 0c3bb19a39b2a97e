/- Several texts in one (a claim holds at most 60 files). -/
import Derived.Test.YtimdojkhdneecaaTra
import Derived.Deep.LoopGhost
import Derived.Laws.StructEq
import Derived.Laws.Cover3
import Derived.ChangeKeysEq
import Derived.Test.YtimdojkhdneecaaLays12
import Derived.Deep.RegionHeld3
namespace Go.Proofs.Ytimdojkhdneecaa.Tree
open Go.RowKit Go.Proofs.Ytimdojkhdneecaa.Hp Go.Proofs.Ytimdojkhdneecaa.Ram Go.Proofs.Ytimdojkhdneecaa.Word Go.Proofs.Ytimdojkhdneecaa.WordP Go.Proofs.Ytimdojkhdneecaa.Pool
set_option linter.unusedVariables false
set_option linter.unusedSimpArgs false
/-- the tables' numbers are those in memory -/
def Fit (B : Nat → Nat → Int) (s : TS) : Prop := ∀ f n, n < 8 → s.M f n = numM B f n
structure TI (w0 w : World) (pm bl p b bi t : Nat) (S : PS) (B : Nat → Nat → Int) (root : Nat) (ov : Value) (s : TS) (ek ep : Nat) : Prop where
  tl : TL w0 w pm bl p b bi t S B root s.own ov
  ok : TOk s ek ep
  rt : s.T 0 0 = some root
  fit : Fit B s
  use : ∀ f, f ∈ s.own → f < 1024 ∧ S.U f = 2
theorem nodup_le : ∀ (n : Nat) (l : List Nat), l.Nodup → (∀ x, x ∈ l → x < n) → l.length ≤ n := by
  intro n l hd hl
  have h1 : l.Perm ((List.range n).filter (fun x => decide (x ∈ l))) := (List.perm_ext_iff_of_nodup hd (List.nodup_range.filter _)).mpr fun x => by
    rw [List.mem_filter, List.mem_range, decide_eq_true_eq]
    exact ⟨fun h => ⟨hl x h, h⟩, fun h => h.2⟩
  have h2 := List.length_filter_le (fun x => decide (x ∈ l)) (List.range n)
  rw [h1.length_eq]
  simpa using h2
/-- what frames do from one state to another -/
structure Mv (S : PS) (B : Nat → Nat → Int) (own : List Nat) (S' : PS) (B' : Nat → Nat → Int) (own' : List Nat) : Prop where
  z : S'.Z = S.Z
  i : S'.I = S.I
  oth : ∀ f, f ∉ own → f ∉ own' → S'.U f = S.U f
  byt : ∀ f, f ∉ own → S.U f ≠ 1 → ∀ j, B' f j = B f j
  new : ∀ f, f ∈ own' → f ∉ own → f < 1024 ∧ S.U f = 1
  gone : ∀ f, f ∈ own → f ∉ own' → S'.U f = 1
theorem Mv.refl (S : PS) (B : Nat → Nat → Int) (own : List Nat) : Mv S B own S B own := ⟨rfl, rfl, fun _ _ _ => rfl, fun _ _ _ _ => rfl, fun _ h h2 => absurd h h2, fun _ h h2 => absurd h h2⟩
theorem Mv.trans {S S' S'' : PS} {B B' B'' : Nat → Nat → Int} {o o' o'' : List Nat} (h : Mv S B o S' B' o') (h' : Mv S' B' o' S'' B'' o'') : Mv S B o S'' B'' o'' := by
  have out : ∀ f, f ∉ o → S.U f ≠ 1 → f ∉ o' ∧ S'.U f = S.U f := fun f h1 h2 => by
    have h3 : f ∉ o' := fun h3 => h2 (h.new f h3 h1).2
    exact ⟨h3, h.oth f h1 h3⟩
  refine ⟨h'.z.trans h.z, h'.i.trans h.i, fun f h1 h2 => ?_, fun f h1 h2 j => ?_, fun f h1 h2 => ?_, fun f h1 h2 => ?_⟩
  · by_cases c : f ∈ o'
    · rw [h'.gone f c h2, (h.new f c h1).2]
    · rw [h'.oth f c h2, h.oth f h1 c]
  · obtain ⟨a, e⟩ := out f h1 h2
    rw [h'.byt f a (by rw [e]; exact h2) j, h.byt f h1 h2 j]
  · by_cases c : f ∈ o'
    · exact h.new f c h2
    · obtain ⟨a, e⟩ := h'.new f h1 c
      exact ⟨a, by rw [← h.oth f h2 c]; exact e⟩
  · by_cases c : f ∈ o'
    · exact h'.gone f c h2
    · rw [h'.oth f c h2]; exact h.gone f h1 c
/-- frames that are a table's, or free -/
def InA (S : PS) (own : List Nat) (f : Nat) : Prop := f < 1024 ∧ (S.U f = 1 ∨ f ∈ own)
instance (S : PS) (own : List Nat) (f : Nat) : Decidable (InA S own f) := by unfold InA; infer_instance
def capN (S : PS) (own : List Nat) : Nat := ((List.range 1024).filter (fun f => decide (InA S own f))).length
theorem Mv.inA {S S' : PS} {B B' : Nat → Nat → Int} {o o' : List Nat} (h : Mv S B o S' B' o') (ho : ∀ f, f ∈ o → f < 1024) (f : Nat) : InA S' o' f ↔ InA S o f := by
  unfold InA
  constructor
  · rintro ⟨h0, h1 | h1⟩
    · refine ⟨h0, ?_⟩
      by_cases c : f ∈ o
      · exact .inr c
      · left
        by_cases c' : f ∈ o'
        · exact (h.new f c' c).2
        · rw [← h.oth f c c']; exact h1
    · refine ⟨h0, ?_⟩
      by_cases c : f ∈ o
      · exact .inr c
      · exact .inl (h.new f h1 c).2
  · rintro ⟨h0, h1⟩
    refine ⟨h0, ?_⟩
    by_cases c' : f ∈ o'
    · exact .inr c'
    · left
      by_cases c : f ∈ o
      · exact h.gone f c c'
      · rw [h.oth f c c']; exact h1.resolve_right c
theorem Mv.cap {S S' : PS} {B B' : Nat → Nat → Int} {o o' : List Nat} (h : Mv S B o S' B' o') (ho : ∀ f, f ∈ o → f < 1024) : capN S' o' = capN S o := by
  have e : (fun f => decide (InA S' o' f)) = (fun f => decide (InA S o f)) := funext fun f => by
    rw [decide_eq_decide]
    exact h.inA ho f
  unfold capN
  rw [e]
/-- what is free -/
def freeN (S : PS) : Nat := ((List.range 1024).filter (fun f => decide (S.U f = 1))).length
theorem cap_free {S : PS} {own : List Nat} (hd : own.Nodup) (hu : ∀ f, f ∈ own → f < 1024 ∧ S.U f = 2) : capN S own = freeN S + own.length := by
  have h1 : ((List.range 1024).filter (fun f => decide (InA S own f))).Perm ((List.range 1024).filter (fun f => decide (S.U f = 1)) ++ own) := by
    refine (List.perm_ext_iff_of_nodup (List.nodup_range.filter _) ?_).mpr fun f => ?_
    · refine List.nodup_append.mpr ⟨List.nodup_range.filter _, hd, fun a ha c hc e => ?_⟩
      subst e
      rw [List.mem_filter, decide_eq_true_eq] at ha
      rw [(hu a hc).2] at ha
      omega
    · rw [List.mem_append, List.mem_filter, List.mem_filter, List.mem_range, decide_eq_true_eq, decide_eq_true_eq]
      unfold InA
      constructor
      · rintro ⟨h, _, x | x⟩
        · exact .inl ⟨h, x⟩
        · exact .inr x
      · rintro (⟨h, x⟩ | x)
        · exact ⟨h, h, .inl x⟩
        · exact ⟨(hu f x).1, (hu f x).1, .inr x⟩
  unfold capN freeN
  rw [h1.length_eq, List.length_append]
theorem cap_full {S : PS} {own : List Nat} (hd : own.Nodup) (hu : ∀ f, f ∈ own → f < 1024 ∧ S.U f = 2) (hno : ∀ f, f < 1024 → S.U f ≠ 1) : capN S own = own.length := by
  rw [cap_free hd hu]
  have : freeN S = 0 := by
    unfold freeN
    rw [List.length_eq_zero_iff, List.filter_eq_nil_iff]
    intro f hf
    rw [decide_eq_true_eq]
    exact hno f (by simpa using hf)
  omega
/-- all that is free, or a table's, could be given -/
def ZI (S : PS) (own : List Nat) : Prop := ∀ f, InA S own f → S.Z (f / 32) = 2 ∧ S.I (f / 32) = false
theorem Mv.zi {S S' : PS} {B B' : Nat → Nat → Int} {o o' : List Nat} (h : Mv S B o S' B' o') (ho : ∀ f, f ∈ o → f < 1024) (hz : ZI S o) : ZI S' o' := fun f hf => by
  rw [h.z, h.i]
  exact hz f ((h.inA ho f).mp hf)
section
variable {w0 w w' : World} {pm bl p b bi t : Nat} {S S' : PS} {B B' : Nat → Nat → Int} {root : Nat} {ov ov' : Value} {s : TS} {ek ep : Nat}
theorem TI.len (h : TI w0 w pm bl p b bi t S B root ov s ek ep) : s.own.length ≤ 1024 := nodup_le 1024 _ h.ok.nodup fun x hx => (h.use x hx).1
theorem TI.keep (h : TI w0 w pm bl p b bi t S B root ov s ek ep) (hc : Chg NoB w w') : TI w0 w' pm bl p b bi t S B root ov s ek ep := ⟨h.tl.keep hc, h.ok, h.rt, h.fit, h.use⟩
theorem TI.at_ (h : TI w0 w pm bl p b bi t S B root ov s ek ep) {k q f : Nat} (hf : s.T k q = some f) : f < 1024 ∧ S.U f = 2 := h.use f ((h.ok.mem f).mpr ⟨k, q, hf⟩)
theorem fit_put {B : Nat → Nat → Int} {s : TS} (h : Fit B s) (f n : Nat) (v : Int) (h0 : 0 ≤ v) (h1 : v < 18446744073709551616) (f' n' : Nat) (hn : n' < 8) : setM s.M f n v f' n' = numM (upd B f (n * 8) (digs v 8)) f' n' := by
  rw [numM_put B f n v h0 h1]
  unfold setM
  split
  · rfl
  · exact h f' n' hn
/-- a table more -/
theorem TI.grown {k q f g : Nat} (h : TI w0 w pm bl p b bi t S B root ov s ek ep) (hk : k < 3) (hp : q < 8 ^ (k + 1)) (hg : s.T k (q / 8) = some g) (hn : s.T (k + 1) q = none) (he : (ek = k ∧ ep = q / 8) ∨ ek = 0) (hf : f < 1024) (hu : S.U f = 1)
    (hTL : TL w0 w' pm bl p b bi t (useF S f 2) (upd (upd B f 0 (List.replicate 64 0)) g (q % 8 * 8) (digs ((f : Int) + 1) 8)) root (s.own ++ [f]) ov') :
    TI w0 w' pm bl p b bi t (useF S f 2) (upd (upd B f 0 (List.replicate 64 0)) g (q % 8 * 8) (digs ((f : Int) + 1) 8)) root ov' (s.grow k q f g) (k + 1) q ∧ Mv S B s.own (useF S f 2) (upd (upd B f 0 (List.replicate 64 0)) g (q % 8 * 8) (digs ((f : Int) + 1) 8)) (s.grow k q f g).own := by
  have hfo : f ∉ s.own := fun x => by have := (h.use f x).2; omega
  have hgo := (h.at_ hg)
  have hgm : g ∈ s.own := (h.ok.mem g).mpr ⟨k, _, hg⟩
  have hz : Fit (upd B f 0 (List.replicate 64 0)) ⟨s.T, zeroM s.M f, s.E, s.own⟩ := fun f' n hn => by
    rw [numM_zero B f f' n hn]
    show zeroM s.M f f' n = _
    unfold zeroM
    split
    · rfl
    · exact h.fit f' n hn
  refine ⟨⟨hTL, tok_grow h.ok hk hp hg hn hfo he, ?_, fun f' n hn8 => ?_, fun f' hf' => ?_⟩, ⟨rfl, rfl, fun f' h1 h2 => ?_, fun f' h1 h2 j => ?_, fun f' h1 h2 => ?_, fun f' h1 h2 => ?_⟩⟩
  · show setT s.T (k + 1) q (some f) 0 0 = _
    rw [setT_ne (fun x => by omega)]; exact h.rt
  · exact fit_put hz g (q % 8) ((f : Int) + 1) (by omega) (by omega) f' n hn8
  · rcases List.mem_append.mp (show f' ∈ s.own ++ [f] from hf') with x | x
    · obtain ⟨a, c⟩ := h.use f' x
      refine ⟨a, ?_⟩
      show Pool.upd S.U f 2 f' = 2
      unfold Pool.upd
      split
      · rfl
      · exact c
    · rw [List.mem_singleton] at x
      subst x
      exact ⟨hf, if_pos rfl⟩
  · show Pool.upd S.U f 2 f' = _
    exact if_neg (fun x => h2 (by subst x; exact List.mem_append.mpr (.inr (by simp))))
  · have n1 : f' ≠ g := fun x => h1 (x ▸ hgm)
    have n2 : f' ≠ f := fun x => h2 (x ▸ hu)
    unfold Ram.upd
    rw [if_neg (fun x => n1 x.1), if_neg (fun x => n2 x.1)]
  · rcases List.mem_append.mp (show f' ∈ s.own ++ [f] from h1) with x | x
    · exact absurd x h2
    · rw [List.mem_singleton] at x
      subst x
      exact ⟨hf, hu⟩
  · exact absurd (List.mem_append.mpr (.inl h1)) h2
/-- a table that has nothing goes -/
theorem TI.dropped {k q f g : Nat} (h : TI w0 w pm bl p b bi t S B root ov s (k + 1) q) (hg : s.T k (q / 8) = some g) (hf : s.T (k + 1) q = some f) (h0 : ∀ n, n < 8 → s.M f n = 0)
    (hTL : TL w0 w' pm bl p b bi t (useF S f 1) (upd B g (q % 8 * 8) (digs 0 8)) root (s.own.filter (fun x => decide (x ≠ f))) ov') :
    TI w0 w' pm bl p b bi t (useF S f 1) (upd B g (q % 8 * 8) (digs 0 8)) root ov' (s.drop k q f g) k (q / 8) ∧ Mv S B s.own (useF S f 1) (upd B g (q % 8 * 8) (digs 0 8)) (s.drop k q f g).own := by
  have hfo := h.at_ hf
  have hfm : f ∈ s.own := (h.ok.mem f).mpr ⟨k + 1, _, hf⟩
  have hgm : g ∈ s.own := (h.ok.mem g).mpr ⟨k, _, hg⟩
  have e : ∀ x, x ∈ (s.drop k q f g).own ↔ x ∈ s.own ∧ x ≠ f := fun x => by
    show x ∈ s.own.filter (fun x => decide (x ≠ f)) ↔ _
    rw [List.mem_filter, decide_eq_true_eq]
  refine ⟨⟨hTL, tok_drop h.ok hg hf h0, ?_, fun f' n hn8 => ?_, fun f' hf' => ?_⟩, ⟨rfl, rfl, fun f' h1 h2 => ?_, fun f' h1 h2 j => ?_, fun f' h1 h2 => ?_, fun f' h1 h2 => ?_⟩⟩
  · show setT s.T (k + 1) q none 0 0 = _
    rw [setT_ne (fun x => by omega)]; exact h.rt
  · exact fit_put h.fit g (q % 8) 0 (by omega) (by omega) f' n hn8
  · obtain ⟨x1, x2⟩ := (e f').mp hf'
    obtain ⟨a, c⟩ := h.use f' x1
    exact ⟨a, by show Pool.upd S.U f 1 f' = 2; unfold Pool.upd; rw [if_neg x2]; exact c⟩
  · show Pool.upd S.U f 1 f' = _
    have n0 : f' ≠ f := fun x => h1 (by rw [x]; exact hfm)
    exact if_neg n0
  · have n1 : f' ≠ g := fun x => h1 (x ▸ hgm)
    unfold Ram.upd
    rw [if_neg (fun x => n1 x.1)]
  · exact absurd ((e f').mp h1).1 h2
  · have : f' = f := by
      by_cases c : f' = f
      · exact c
      · exact absurd ((e f').mpr ⟨h1, c⟩) h2
    subst this
    exact if_pos rfl
/-- a page's number -/
theorem TI.putted {pg f : Nat} {v : Int} (h : TI w0 w pm bl p b bi t S B root ov s ek ep) (he : (ek = 3 ∧ ep = pg / 8) ∨ ek = 0) (hf : s.T 3 (pg / 8) = some f) (h0 : 0 ≤ v) (h1 : v < 18446744073709551616)
    (hTL : TL w0 w' pm bl p b bi t S (upd B f (pg % 8 * 8) (digs v 8)) root s.own ov) :
    TI w0 w' pm bl p b bi t S (upd B f (pg % 8 * 8) (digs v 8)) root ov (s.put pg f v) 3 (pg / 8) ∧ Mv S B s.own S (upd B f (pg % 8 * 8) (digs v 8)) (s.put pg f v).own := by
  have hfm : f ∈ s.own := (h.ok.mem f).mpr ⟨3, _, hf⟩
  refine ⟨⟨hTL, tok_put v h.ok he hf, h.rt, fun f' n hn8 => fit_put h.fit f (pg % 8) v h0 h1 f' n hn8, h.use⟩, ⟨rfl, rfl, fun _ _ _ => rfl, fun f' h1 h2 j => ?_, fun f' h1 h2 => absurd h1 h2, fun f' h1 h2 => absurd h1 h2⟩⟩
  have n1 : f' ≠ f := fun x => h1 (x ▸ hfm)
  unfold Ram.upd
  rw [if_neg (fun x => n1 x.1)]
/-- one table may have nothing -/
theorem tok_weak {s : TS} (k q : Nat) (h : TOk s 0 0) : TOk s k q :=
  ⟨h.root, h.lvl, h.kid, h.par, h.leaf, h.no, h.inj, h.mem, h.nodup, fun k' p f hf => by
    rcases h.full k' p f hf with ⟨x, _⟩ | x
    · omega
    · exact .inr x⟩
/-- a list of tables on the way to a page -/
structure Way (s : TS) (pg : Nat) (l : List Nat) : Prop where
  len : 1 ≤ l.length ∧ l.length ≤ 4
  at_ : ∀ k, k < l.length → ∃ f, l[k]? = some f ∧ s.T k (pre pg k) = some f
  no : l.length < 4 → s.T l.length (pre pg l.length) = none
end
end Go.Proofs.Ytimdojkhdneecaa.Tree

namespace Go.Proofs.Ytimdojkhdneecaa.Tree
open Go.RowKit Go.Proofs.Ytimdojkhdneecaa.Hp Go.Proofs.Ytimdojkhdneecaa.Ram Go.Proofs.Ytimdojkhdneecaa.Word Go.Proofs.Ytimdojkhdneecaa.WordP Go.Proofs.Ytimdojkhdneecaa.Pool
set_option linter.unusedVariables false
set_option linter.unusedSimpArgs false
def WayP (s : TS) (pg : Nat) (l : List Nat) : Prop := ∀ k, k < l.length → ∃ f, l[k]? = some f ∧ s.T k (pre pg k) = some f
def WayTo (w : World) (s : TS) (pg : Nat) (e : Ending) (w' : World) : Prop := ∃ path v, e = .returned (.tuple #[v, .int .i64 0]) ∧ w'.ownsRow w.heap.size 3 1 v path.length (ownV path) ∧ Way s pg path ∧ Chg NoB w w'
def digA (pg : Nat) : Array Value := #[.int .i64 (dig pg 0 : Nat), .int .i64 (dig pg 1 : Nat), .int .i64 (dig pg 2 : Nat), .int .i64 (dig pg 3 : Nat)]
theorem digA_at (pg k : Nat) (hk : k < 4) : (digA pg)[k]? = some (.int .i64 (dig pg k : Nat)) := by
  rcases (by omega : k = 0 ∨ k = 1 ∨ k = 2 ∨ k = 3) with rfl | rfl | rfl | rfl <;> rfl
theorem own_pos {w : World} {base n : Nat} {e : TypeId} {v : Value} {xs : List Value} (h : w.ownsRow base e 1 v n xs) (hn : n ≠ 0) : ∃ g c, v = .slice (some ⟨g, 0, none⟩) n c ∧ base ≤ g ∧ n ≤ c := by
  rcases h.2 with ⟨rfl, h0⟩ | ⟨g, cap, cur, rfl, hb, _, hc, _⟩
  · exact absurd h0 hn
  · exact ⟨g, cap, rfl, hb, hc⟩
def WayRel (w : World) (s : TS) (pg o : Nat) (v i : Value) (wr : World) : Prop := ∃ (k : Nat) (path : List Nat), k ≤ 3 ∧ i = .int .i64 (k : Int) ∧ path.length = k + 1 ∧ WayP s pg path ∧ wr.ownsRow w.heap.size 3 1 v (k + 1) (ownV path) ∧ Chg NoB w wr ∧ Blk wr o (digA pg) 67 ∧ w.heap.size ≤ o
theorem ownV_at {l : List Nat} {k f : Nat} (h : l[k]? = some f) : (ownV l)[k]? = some (.int .i64 (f : Int)) := by
  unfold ownV
  rw [List.getElem?_map, h]; rfl
theorem dig_lt (pg k : Nat) : dig pg k < 8 := by unfold dig; omega
theorem pre_dig {pg k : Nat} (hk : k < 4) : 8 * pre pg k + dig pg k = pre pg (k + 1) := by
  rw [dig_pre pg k hk, ← pre_succ pg k hk]
  exact Nat.div_add_mod _ 8
set_option maxHeartbeats 4000000 in
theorem way_any {w : World} {t pm p bl root : Nat} {ov : Value} {B : Nat → Nat → Int} {D : Nat → Bool} {s : TS} {ek ep : Nat} (pg : Nat) (hpg : pg < 4096) (ht : TBlk w t pm p root ov) (h : RRam w pm bl 1024 B D) (hB : ByteB B) (hok : TOk s ek ep) (hrt : s.T 0 0 = some root) (hfit : Fit B s) (hlt : ∀ f, f ∈ s.own → f < 1024 ∧ D f = false) :
    Calls Try.prog 28 #[.pointer (some ⟨t, 0, none⟩), .int .i64 (pg : Int)] w (WayTo w s pg) := by
  have y2 : w.cell? ⟨t, 2, none⟩ = some (.int .i64 (root : Int)) := by rw [bcell ht]; rfl
  have hdg := digits_any pg hpg (w.alloc (.cells #[.int .i64 (root : Int)] 3))
  have cA : Chg NoB w (w.alloc (.cells #[.int .i64 (root : Int)] 3)) := (Chg.refl NoB w).alloc _
  have rA : (w.alloc (.cells #[.int .i64 (root : Int)] 3)).ownsRow w.heap.size 3 1 (.slice (some ⟨w.heap.size, 0, none⟩) 1 1) 1 (ownV [root]) := World.ownsRow_lit w #[.int .i64 (root : Int)] 1 (Nat.le_refl _) (by decide) rfl
  have hr0 : WayP s pg [root] := fun k hk => by
    obtain rfl : k = 0 := by simpa using hk
    exact ⟨root, rfl, by rw [pre_zero hpg]; exact hrt⟩
  have H := Lib.hid (And.intro cA rA)
  have G := Lib.hid (And.intro ht (And.intro h (And.intro hB (And.intro hok (And.intro hfit hlt)))))
  clear cA rA ht h hB hok hfit hlt
  go_enter Try.func28, Try.ntmps28
  go_wp2_with fail
  refine hdg.mono ?_
  rintro e w1 ⟨rfl, hC1⟩
  have c1 : Chg NoB w (w1.alloc (.cells (digA pg) 67)) := (H.out.1.trans hC1 (fun _ _ x => x)).alloc _
  have r1 : (w1.alloc (.cells (digA pg) 67)).ownsRow w.heap.size 3 1 (.slice (some ⟨w.heap.size, 0, none⟩) 1 1) 1 (ownV [root]) := (Own.own_chg H.out.2 hC1 (fun _ _ x => x)).alloc _
  have hsz : w.heap.size ≤ w1.heap.size := (H.out.1.trans hC1 (fun _ _ x => x)).size
  have hR : WayRel w s pg w1.heap.size (.slice (some ⟨w.heap.size, 0, none⟩) 1 1) (.int .i64 0) (w1.alloc (.cells (digA pg) 67)) := ⟨0, [root], by omega, rfl, rfl, hr0, r1, c1, bnew w1 _, hsz⟩
  clear hdg hC1 c1 r1 H y2 hr0
  have hRH := Lib.hid hR
  clear hR
  go_wp2_with fail
  have hB2 := hRH.out
  clear hRH
  go_loopw [6, 21] (fun v i wr => WayRel w s pg w1.heap.size v i wr) (fun v i wr => (3 - intOf i).toNat)
  case atStart => exact hB2
  case round =>
    clear hB2
    obtain ⟨k, path, hk, rfl, hl, hP, hown, hC, hb, ho⟩ := hrel
    obtain ⟨g, c, rfl, hg, hcn⟩ := own_pos hown (Nat.succ_ne_zero k)
    by_cases h3 : k < 3
    · have d0 : decide ((k : Int) < 3) = true := decide_eq_true (by omega)
      obtain ⟨f, hf, hT⟩ := hP k (by omega)
      obtain ⟨hf1, hf2⟩ := G.out.2.2.2.2.2 f ((G.out.2.2.2.1.mem f).mpr ⟨k, _, hT⟩)
      have htg := tget_any f (dig pg k) (hC.blk G.out.1 (fun x => x)) (G.out.2.1.chg hC (fun x => x) (fun x => x)) G.out.2.2.1 hf1 (dig_lt pg k) hf2
      have hnum : numM B f (dig pg k) = kidV (s.T (k + 1) (pre pg (k + 1))) := by
        rw [← G.out.2.2.2.2.1 f (dig pg k) (dig_lt pg k), G.out.2.2.2.1.kid k (pre pg k) f h3 hT (dig pg k) (dig_lt pg k), pre_dig (by omega)]
      rw [hnum] at htg
      have z1 : wr.cell? ⟨w1.heap.size, k, none⟩ = some (.int .i64 (dig pg k : Nat)) := by rw [bcell hb, digA_at pg k (by omega)]
      have z2 : wr.cell? ⟨g, k, none⟩ = some (.int .i64 (f : Int)) := by
        rw [hown.cellAt k (by omega)]
        exact ownV_at hf
      have e1 : ((k + 1 : Nat) : Int) - 1 = k := by omega
      have e2 : wrap64 ((k : Int) + 1) = ((k + 1 : Nat) : Int) := by rw [w64_id' _ (by omega) (by omega)]; omega
      have HR := Lib.hid (And.intro hown (And.intro hC (And.intro hb (And.intro ho (And.intro hP hl)))))
      have hk3 := h3
      clear hown hC hb ho hP hl hnum hf
      cases hT2 : s.T (k + 1) (pre pg (k + 1)) with
      | none =>
        rw [hT2] at htg
        have e0 : kidV none = 0 := rfl
        rw [e0] at htg
        clear e0
        go_wp2_with fail
        refine htg.mono ?_
        rintro e w2 ⟨rfl, hC2⟩
        have F := Lib.hid (show WayTo w s pg (.returned (.tuple #[.slice (some ⟨g, 0, none⟩) (k + 1) c, .int .i64 0])) w2 from by
          obtain ⟨x1, x2, _, _, x5, x6⟩ := HR.out
          exact ⟨path, _, rfl, by rw [x6]; exact Own.own_chg x1 hC2 (fun _ _ x => x), ⟨by omega, x5, fun _ => by rw [x6]; exact hT2⟩, x2.trans hC2 (fun _ _ x => x)⟩)
        clear htg hC2 HR G
        go_wp2_with fail
        go_ret2
        exact F.out
      | some f2 =>
        have hf2 := (G.out.2.2.2.2.2 f2 ((G.out.2.2.2.1.mem f2).mpr ⟨k + 1, _, hT2⟩)).1
        rw [hT2] at htg
        obtain ⟨U, hU⟩ : ∃ U : Int, U = (f2 : Int) + 1 := ⟨_, rfl⟩
        rw [show kidV (some f2) = U from hU.symm] at htg
        have t3 : (U == 0) = false := by rw [beq_eq_false_iff_ne]; omega
        have t1 : IntKind.i64.wrap U = U := IntWalk.i64_in _ ⟨by omega, by omega⟩
        have t2 : wrap64 (U - 1) = (f2 : Int) := by rw [w64_id' _ (by omega) (by omega)]; omega
        clear hU
        go_wp2_with fail
        refine htg.mono ?_
        rintro e w2 ⟨rfl, hC2⟩
        obtain ⟨x1, x2, x3, x4, x5, x6⟩ := HR.out
        have hown2 := Own.own_chg x1 hC2 (fun _ _ x => x)
        have hbase : w.heap.size ≤ w2.heap.size := (x2.trans hC2 (fun _ _ x => x)).size
        have fin : ∀ v' w3, w3.ownsRow w.heap.size 3 1 v' (k + 1 + 1) (ownV path ++ [.int .i64 (f2 : Int)]) → Chg (fun i => (Value.slice (some ⟨g, 0, none⟩) (k + 1) c).ownBlock = some i) w2 w3 → WayRel w s pg w1.heap.size v' (.int .i64 ((k + 1 : Nat) : Int)) w3 := fun v' w3 k1 k2 => by
          obtain ⟨C, hCb⟩ := (Own.own_ge x1 g rfl).2
          have hne : g ≠ w1.heap.size := fun e => by
            rw [e] at hCb
            have := hCb.symm.trans x3
            simp at this
          refine ⟨k + 1, path ++ [f2], h3, rfl, by simp [x6], fun j hj => ?_, ?_, (x2.trans hC2 (fun _ _ x => x)).trans k2 (fun i hi x => ?_), k2.blk (hC2.blk x3 (fun x => x)) (fun x => ?_), x4⟩
          · rw [List.length_append, List.length_singleton] at hj
            by_cases c : j < path.length
            · obtain ⟨f', y1, y2⟩ := x5 j c
              exact ⟨f', by rw [List.getElem?_append_left c]; exact y1, y2⟩
            · obtain rfl : j = k + 1 := by omega
              exact ⟨f2, by rw [List.getElem?_append_right (by omega), x6, Nat.sub_self]; rfl, hT2⟩
          · have e : ownV (path ++ [f2]) = ownV path ++ [.int .i64 (f2 : Int)] := by unfold ownV; rw [List.map_append]; rfl
            rw [e]; exact k1
          · simp [Value.ownBlock] at x; omega
          · simp [Value.ownBlock] at x; exact hne x
        have FI := Lib.hid fin
        have l1 : k + 1 + 1 ≤ 9223372036854775807 := by omega
        have l2 : (k + 1 + 1) * 8 ≤ 140737488355328 := by omega
        clear htg hC2 HR x1 x2 x3 x4 x5 x6 fin G
        go_wp2_with (first | (at_builtin; go_loud (refine Own.append_own3 (w := w2) (base := w.heap.size) rfl (.tmp 42) (.tmp 46) 34 3 rfl (.int .i64 0) 8 Try.underlying34 info_int rfl (.slice (some ⟨g, 0, none⟩) (k + 1) c) (k + 1) (ownV path) (by rfl) hbase hown2 (.int .i64 (f2 : Int)) 3 (by rfl) rfl l1 l2 ?_); intro v' w3 hown' hCo hwh; have F := FI.out v' w3 hown' hCo) | go_in)
        rw [show ((k + 1 : Nat) : Int) = (k : Int) + 1 by omega] at F
        exact ⟨F, by simp [intOf]; omega⟩
    · obtain rfl : k = 3 := by omega
      have d0 : decide (((3 : Nat) : Int) < 3) = false := by decide
      have F := Lib.hid (show WayTo w s pg (.returned (.tuple #[.slice (some ⟨g, 0, none⟩) (3 + 1) c, .int .i64 0])) wr from ⟨path, _, rfl, by rw [hl]; exact hown, ⟨by omega, hP, fun h => by omega⟩, hC⟩)
      clear hown hC hb hP hl G
      go_wp2_with fail
      go_ret2
      exact F.out
end Go.Proofs.Ytimdojkhdneecaa.Tree

namespace Go.Proofs.Ytimdojkhdneecaa.Tree
open Go.RowKit Go.Proofs.Ytimdojkhdneecaa.Hp Go.Proofs.Ytimdojkhdneecaa.Ram Go.Proofs.Ytimdojkhdneecaa.Word Go.Proofs.Ytimdojkhdneecaa.WordP Go.Proofs.Ytimdojkhdneecaa.Pool
set_option linter.unusedVariables false
set_option linter.unusedSimpArgs false
set_option maxHeartbeats 4000000 in
section
variable {P : Program} {ops : Array Oper} {rest : List Oper} {o : Oper} {a : Act} {w : World} {Q : Exit → Act → World → Prop}
theorem op_at_w (hw : Region.wanted o (yielded ops a.tmps) = true) (v : Value) (hr : (execOp a.eval o).run P w = .ok (.value v) w)
    (h : wpList P ops Q rest (a.put o.dst v) w) : wpList P ops Q (o :: rest) a w := by
  refine BigFrame.wpList_want hw fun K hK => ?_
  unfold Oper.wp
  rw [hr]
  exact hK _ _ h
theorem ex_load {ρ : Operand → Value} {ty : TypeId} {x : Operand} {ad : Addr} {v : Value} (ho : o.op = .load ty x) (hx : ρ x = .pointer (some ad)) (hr : (loadVar ty ad).run P w = .ok v w) : (execOp ρ o).run P w = .ok (.value v) w := by
  unfold execOp
  simp only [ho, hx, Instr.loadAt, Instr.sureAddr, Sem.run_bind, Sem.run_pure, Result.andThen_ok, hr]
theorem ex_build {ρ : Operand → Value} {ty : TypeId} {v : Value} (ho : o.op = .build ty #[]) (hr : (Instr.build ty #[]).run P w = .ok v w) : (execOp ρ o).run P w = .ok (.value v) w := by
  unfold execOp
  simp only [ho, List.map_toArray, List.map_nil, Sem.run_bind, Sem.run_pure, Result.andThen_ok, hr]
theorem ex_eql {ρ : Operand → Value} {ty : TypeId} {x y : Operand} {t2 : TypeId} {X Y v : Value} (ho : o.op = .binOp .eql ty x y t2) (hx : ρ x = X) (hy : ρ y = Y) (hg : (eqGuard .eql ty x y X Y).run P w = .ok () w) (hr : (binOp .eql ty X Y).run P w = .ok v w) : (execOp ρ o).run P w = .ok (.value v) w := by
  unfold execOp
  simp only [ho, hx, hy, Sem.run_bind, Sem.run_pure, Result.andThen_ok, hg, hr]
end
theorem eqI (w : World) (d : Nat) (l m : List Int) : ∀ is : List Nat, (∀ i, i ∈ is → i < l.length ∧ i < m.length) → (Op.eqItems (d + 1) 5 1 (l.map (Value.int .u8)).toArray (m.map (Value.int .u8)).toArray is).run Try.prog w = .ok (is.all fun i => l.getD i 0 == m.getD i 0) w
  | [], _ => by simp [Op.eqItems]
  | i :: is, h => by
    obtain ⟨h1, h2⟩ := h i (by simp)
    have ih := eqI w d l m is (fun j hj => h j (by simp [hj]))
    have g1 : (l.map (Value.int .u8)).toArray[i * 1]? = some (.int .u8 (l.getD i 0)) := by simp [List.getD_eq_getElem?_getD, h1]
    have g2 : (m.map (Value.int .u8)).toArray[i * 1]? = some (.int .u8 (m.getD i 0)) := by simp [List.getD_eq_getElem?_getD, h2]
    have hp : Try.prog.plainKey 5 = true := by kernel_rfl
    simp only [Op.eqItems, Sem.run_bind, run_part_plain w hp g1, run_part_plain w hp g2, run_equalIn_int w d 5 .u8 .u8 _ _ Try.underlying5, Result.andThen_ok]
    cases hb : (l.getD i 0 == m.getD i 0)
    · simp [hb, -List.getD_eq_getElem?_getD]
    · simp [hb, ih, -List.getD_eq_getElem?_getD]
theorem all_eq (l : List Int) (n : Nat) (hl : l.length = n) : ((List.range n).all fun i => l.getD i 0 == (List.replicate n 0).getD i 0) = decide (l = List.replicate n 0) := by
  rw [Bool.eq_iff_iff, List.all_eq_true, decide_eq_true_eq]
  constructor
  · intro h
    apply List.ext_getElem
    · simp [hl]
    · intro i h1 h2
      have := h i (by simp; omega)
      have hin : i < n := by omega
      simpa [List.getD_eq_getElem?_getD, h1, h2, List.getElem?_replicate, hin] using this
  · rintro h i hi
    rw [h]; simp
theorem eq64 (w : World) (l : List Int) (hl : l.length = 64) : (Op.equalIn 10000 88 (.agg (l.map (Value.int .u8)).toArray) (.agg ((List.replicate 64 (0 : Int)).map (Value.int .u8)).toArray)).run Try.prog w = .ok (decide (l = List.replicate 64 0)) w := by
  have hs : (Try.prog.info? 5).map (·.size) = some 1 := by kernel_rfl
  obtain ⟨i, hi, hi2⟩ := Option.map_eq_some_iff.1 hs
  have hc : Try.prog.cellsOf 5 = 1 := by kernel_rfl
  rw [run_equalIn_array w 9999 _ _ Try.underlying88 hi, hc, eqI w 9998 l (List.replicate 64 0) (List.range 64) (fun i h => by simp at h; simp; omega), all_eq l 64 hl]
theorem leN_zero : ∀ l : List Int, Bytes l → (leN l = 0 ↔ l = List.replicate l.length 0)
  | [], _ => by simp [leN]
  | a :: l, h => by
    have h1 := h a (by simp)
    have hb : Bytes l := fun x hx => h x (by simp [hx])
    have h2 := leN_zero l hb
    have h3 := (leN_range l hb).1
    rw [List.length_cons, List.replicate_succ, List.cons.injEq, ← h2]
    show a + 256 * leN l = 0 ↔ _
    constructor
    · intro x; exact ⟨by omega, by omega⟩
    · rintro ⟨x, y⟩; omega
theorem nums_zero {B : Nat → Nat → Int} (hB : ByteB B) (f : Nat) : (∀ n, n < 8 → numM B f n = 0) ↔ rdL B f 0 64 = List.replicate 64 0 := by
  have key : ∀ a m, rdL B f a m = List.replicate m 0 ↔ ∀ j, a ≤ j → j < a + m → B f j = 0 := fun a m => by
    unfold rdL
    rw [List.eq_replicate_iff]
    constructor
    · rintro ⟨_, h⟩ j h1 h2
      exact h _ (List.mem_map.mpr ⟨j - a, by simp; omega, by rw [show a + (j - a) = j by omega]⟩)
    · intro h
      refine ⟨by simp, fun b hb => ?_⟩
      obtain ⟨j, hj, rfl⟩ := List.mem_map.mp hb
      rw [List.mem_range] at hj
      exact h _ (by omega) (by omega)
  have k2 : ∀ n, numM B f n = 0 ↔ ∀ j, n * 8 ≤ j → j < n * 8 + 8 → B f j = 0 := fun n => by
    rw [← key]
    unfold numM
    have := leN_zero (rdL B f (n * 8) 8) (rdL_bytes hB f _ _)
    rw [rdL_len] at this
    exact this
  rw [key]
  constructor
  · intro h j _ h2
    exact (k2 (j / 8)).mp (h (j / 8) (by omega)) j (by omega) (by omega)
  · intro h n hn
    exact (k2 n).mpr fun j h1 h2 => h j (by omega) (by omega)
set_option maxRecDepth 100000 in
def EmptyTo (w : World) (B : Nat → Nat → Int) (f : Nat) (e : Ending) (w' : World) : Prop := (∃ v : Bool, (v = true ↔ ∀ n, n < 8 → numM B f n = 0) ∧ e = .returned (.bool v)) ∧ Chg NoB w w'
set_option maxRecDepth 100000 in
set_option maxHeartbeats 4000000 in
theorem empty_any {w : World} {t pm p bl root : Nat} {ov : Value} {B : Nat → Nat → Int} {D : Nat → Bool} (f : Nat) (hf : f < 1024) (hd : D f = false) (ht : TBlk w t pm p root ov) (h : RRam w pm bl 1024 B D) (hB : ByteB B) :
    Calls Try.prog 54 #[.pointer (some ⟨t, 0, none⟩), .int .i64 (f : Int)] w (EmptyTo w B f) := by
  unfold EmptyTo
  have hrd := read_ok pm bl 1024 B D f 0 64 w h hf (by omega) hd
  rw [show ((0 : Nat) : Int) = 0 from rfl, show ((64 : Nat) : Int) = 64 from rfl] at hrd
  have y0 : w.cell? ⟨t, 0, none⟩ = some (.pointer (some ⟨pm, 0, none⟩)) := by rw [bcell ht]; rfl
  have hl := rdL_len B f 0 64
  have hby := rdL_bytes hB f 0 64
  have hnum := nums_zero hB f
  rw [hnum]
  clear hnum ht h
  generalize rdL B f 0 64 = l at *
  go_enter Try.func54, Try.ntmps54
  go_wp2_with fail
  refine hrd.mono ?_
  rintro e w1 ⟨v, rfl, hown, hC⟩
  obtain ⟨A, c, rfl, hl2, _, hr, _⟩ := own_rd hown (by rw [hl]; decide)
  rw [hl] at hown
  obtain ⟨g, c', e, hg, hcc⟩ := own_pos hown (by decide)
  injection e with e1 e2 e3
  subst e1 e3
  rw [hl]
  have hat : (Instr.arrayAt 88 (.slice (some ⟨g, 0, none⟩) 64 c)).run Try.prog w1 = .ok (.pointer (some ⟨g, 0, none⟩)) w1 := run_arrayAt w1 _ _ 64 _ 64 c Try.underlying88 (Nat.le_refl _)
  have hld : (loadVar 88 ⟨g, 0, none⟩).run Try.prog w1 = .ok (.agg (l.map (Value.int .u8)).toArray) w1 := run_loadVar_at w1 g 0 _ _ _ (fun j v hv => by
    have hj : j < 64 := by
      have := (Array.getElem?_eq_some_iff.mp hv).1
      simpa [hl] using this
    rw [Nat.zero_add, hown.cellAt j (by omega)]
    simpa using hv) Try.underlying88 rfl (by rw [show (Try.prog.info? 88).map (·.size) = some 64 by kernel_rfl]; simp [hl])
  have heq := fun W => eq64 W l hl
  obtain ⟨X, hX⟩ : ∃ X, X = (l.map (Value.int .u8)).toArray := ⟨_, rfl⟩
  obtain ⟨Z, hZ⟩ : ∃ Z, Z = ((List.replicate 64 (0 : Int)).map (Value.int .u8)).toArray := ⟨_, rfl⟩
  rw [← hX] at hld heq
  rw [← hZ] at heq
  have hz : (Instr.build 88 #[]).run Try.prog w1 = .ok (.agg Z) w1 := run_build w1 _ _ Z (by rw [hZ]; kernel_rfl)
  have hbi : ∀ W, (binOp .eql 88 (.agg X) (.agg Z)).run Try.prog W = .ok (.bool (decide (l = List.replicate 64 0))) W := fun W => by
    rw [run_eql_struct, heq]; rfl
  have hgu : ∀ (x y : Operand) W, (eqGuard .eql 88 x y (.agg X) (.agg Z)).run Try.prog W = .ok () W := fun x y W => run_eqGuard_agg W .eql _ x y _ _ (by kernel_rfl)
  have F := Lib.hid (show (∃ v : Bool, (v = true ↔ l = List.replicate 64 0) ∧ Ending.returned (.bool (decide (l = List.replicate 64 0))) = .returned (.bool v)) ∧ Chg NoB w w1 from ⟨⟨_, decide_eq_true_iff, rfl⟩, hC⟩)
  obtain ⟨d, hd⟩ : ∃ d, d = decide (l = List.replicate 64 0) := ⟨_, rfl⟩
  rw [← hd] at hbi F
  clear hd hX hZ heq hl hl2 hby hown hr hrd y0 e2 hC
  go_wp2_with (first | (refine op_at_w rfl (.agg X) (ex_load rfl (by rfl) hld) ?_) | (refine op_at_w rfl (.agg Z) (ex_build rfl hz) ?_) | (refine op_at_w rfl (.bool d) (ex_eql rfl (by rfl) (by rfl) (hgu _ _ _) (hbi _)) ?_))
  go_ret
  exact F.out
end Go.Proofs.Ytimdojkhdneecaa.Tree

namespace Go.Proofs.Ytimdojkhdneecaa.Tree
open Go.RowKit Go.Shelf Go.Lib Go.Sort Go.Proofs.Ytimdojkhdneecaa.Hp Go.Proofs.Ytimdojkhdneecaa.Ram Go.Proofs.Ytimdojkhdneecaa.Word Go.Proofs.Ytimdojkhdneecaa.WordP Go.Proofs.Ytimdojkhdneecaa.Pool
set_option linter.unusedVariables false
set_option linter.unusedSimpArgs false
theorem putRow_blk {α : Type} [Inhabited α] (enc : α → Value) (w : World) (g off q : Nat) (d : Array α) : (putRow enc (Sort.ahead w q) g off d).heap[g]? = (w.heap[g]?).map (onCells (putCells enc off d)) := by
  show (w.heap.modify g _)[g]? = _
  rw [Array.getElem?_modify, if_pos rfl]
theorem putRow_chg {α : Type} [Inhabited α] (enc : α → Value) (w : World) (g off q : Nat) (d : Array α) : Chg (· = g) w (putRow enc (Sort.ahead w q) g off d) :=
  ⟨rfl, rfl, rfl, by rw [size_putRow]; exact Nat.le_refl _, fun k _ hk => by
    show (w.heap.modify g _)[k]? = _
    rw [Array.getElem?_modify, if_neg (fun e => hk e.symm)]⟩
theorem putRow_own {α : Type} [Inhabited α] (enc : α → Value) (w : World) (base g cap q n m : Nat) (e : TypeId) (xs : List Value) (d : Array α) (ys : List α) (h : w.ownsRow base e 1 (.slice (some ⟨g, 0, none⟩) n cap) n xs) (hd : d.size = n) (hm : m ≤ n) (hy : d.toList.take m = ys) :
    (putRow enc (Sort.ahead w q) g 0 d).ownsRow base e 1 (.slice (some ⟨g, 0, none⟩) m cap) m (ys.map enc) := by
  rcases h.2 with ⟨h', _⟩ | ⟨g', cap', cur, h', hb, hg, hnc, hcm, hcs, htake⟩
  · simp at h'
  · simp only [Value.slice.injEq, Option.some.injEq, Addr.mk.injEq, and_true, true_and] at h'
    obtain ⟨rfl, rfl⟩ := h'
    have hl : ys.length = m := by rw [← hy, List.length_take]; simp; omega
    refine ⟨by simp [hl], .inr ⟨g, cap, putCells enc 0 d cur, rfl, hb, ?_, by omega, hcm, by simp [putCells, hcs], ?_⟩⟩
    · rw [putRow_blk, hg]; rfl
    · rw [← hy]
      apply List.ext_getElem
      · simp [putCells, hcs]; omega
      · intro i h1 h2
        simp only [List.length_map, List.length_take, Array.length_toList] at h2
        have hi : i < d.size := by omega
        simp [putCells, hi]
theorem eqF_any (f x : Int) (B : Nat) (W : World) (hc : W.cell? ⟨B, 0, none⟩ = some (.int .i64 f)) :
    FnGives Try.prog 67 #[.pointer (some ⟨B, 0, none⟩)] #[.int .i64 x] (.bool (x == f)) W := by
  show Calls Try.prog 67 #[.int .i64 x, .pointer (some ⟨B, 0, none⟩)] W _
  go_enter Try.func67, Try.ntmps67
  go_wp2_with fail
  go_ret
  exact ⟨rfl, 0, rfl⟩
def DelTo (w : World) (base : Nat) (v : Value) (own : List Nat) (e : Ending) (w' : World) : Prop := ∃ v', e = .returned v' ∧ w'.ownsRow base 3 1 v' own.length (ownV own) ∧ Chg (fun i => v.ownBlock = some i) w w' ∧ v'.ownBlock = v.ownBlock
theorem del_any {w : World} {base B n : Nat} {v : Value} {own : List Nat} (f : Nat) (h : w.ownsRow base 3 1 v n (ownV own)) (hB : Blk w B #[.int .i64 (f : Int)] 3) (hne : ∀ g, v.ownBlock = some g → g ≠ B) (hn : n ≠ 0) (hlen : n ≤ 1024) :
    Calls Try.prog 66 #[v, .func (.func 67) #[] #[.pointer (some ⟨B, 0, none⟩)]] w (DelTo w base v (own.filter (fun x => decide (x ≠ f)))) := by
  obtain ⟨g, c, rfl, hg, hcn⟩ := own_pos h hn
  have hgB : g ≠ B := hne g rfl
  have hl : own.length = n := by have := h.1; simpa [ownV] using this
  have eg : ∀ args w, (callFunc 67 args).run Try.prog w = .ok (.enter 67 args) w := enters_of Try.func67 (by kernel_rfl) rfl
  have hcell : w.cell? ⟨B, 0, none⟩ = some (.int .i64 (f : Int)) := by rw [bcell hB]; rfl
  have hBl := blt hB
  have hH : Holds (Value.int .i64) w g 0 (ownI own).toArray := fun j hj => by
    have hj2 : j < own.length := by simpa [ownI] using hj
    refine ⟨?_, h.frozenAt _⟩
    rw [Nat.zero_add, h.cellAt j (by omega)]
    simp [ownV, ownI, hj2]
  have hs : (ownI own).toArray.size = n := by simp [ownI, hl]
  have hcon := AnyE.slices_DeleteFunc Try.delA (Value.int .i64) (fun _ => rfl) (fun x => x == (f : Int)) 67 #[.pointer (some ⟨B, 0, none⟩)] eg 0 Try.zeroValue3 g 0 c (ownI own).toArray w
    (fun W x hb => eqF_any f x B W ((hb.cell (p := ⟨B, 0, none⟩) hBl).trans hcell))
    (fun k os dk x _ => eqF_any f x B _ (by
      unfold sortWorld
      rw [cell?_grow _ _ _ (by show B < (putRow _ _ _ _ _).heap.size; rw [size_putRow]; exact hBl), cell?_putRow_other _ _ g 0 _ _ (Or.inl (Ne.symm hgB))]
      exact hcell)) hH (by omega) (by omega)
  change Calls Try.prog 66 _ _ _ at hcon
  rw [hs] at hcon
  have hfil : ((ownI own).filter fun x => !(x == (f : Int))) = ownI (own.filter (fun x => decide (x ≠ f))) := by
    unfold ownI
    rw [List.filter_map]
    congr 1
    refine List.filter_congr fun x _ => ?_
    rw [Bool.eq_iff_iff]
    simp
    omega
  rw [show (ownI own).toArray.toList = ownI own from rfl, hfil] at hcon
  refine hcon.mono ?_
  rintro e w' ⟨rfl, q, rfl⟩
  have hfl : (ownI (own.filter (fun x => decide (x ≠ f)))).length = (own.filter (fun x => decide (x ≠ f))).length := by simp [ownI]
  have hle : (own.filter (fun x => decide (x ≠ f))).length ≤ n := by rw [← hl]; exact List.length_filter_le _ _
  rw [hfl]
  have hV : ownV (own.filter (fun x => decide (x ≠ f))) = (ownI (own.filter (fun x => decide (x ≠ f)))).map (Value.int .i64) := by unfold ownV ownI; rw [List.map_map]; rfl
  refine ⟨_, rfl, ?_, (putRow_chg _ _ _ _ _ _).mono (fun i _ x => ?_), rfl⟩
  · rw [hV]
    refine putRow_own _ _ base g c q n _ _ _ _ _ h ?_ hle ?_
    · rw [List.size_toArray, List.length_append, List.length_replicate, hfl]; omega
    · simp only [List.toList_toArray]
      rw [← hfl, List.take_left]
  · have : i = g := x
    subst this; rfl
theorem tfree_any {w0 w : World} {p b bi : Nat} {S : PS} (f : Nat) (h : PL w0 w p b bi S) (hf : f < 1024) (hu : S.U f = 2) : Calls Try.prog 42 #[.pointer (some ⟨p, 0, none⟩), .int .i64 (f : Int)] w fun e w' => e = .returned (.bool true) ∧ PL w0 w' p b bi (useF S f 1) ∧ Chg (fun i => i = p ∨ i = bi) w w' := by
  have e : useD S.U (f : Int) = 2 := by unfold useD; rw [if_pos (by omega), Int.toNat_natCast, hu]
  refine (free_any p b bi S.U S.Z S.I _ f w h.at_).mono ?_
  intro e w1 hp
  rcases hp with ⟨g, rfl, rfl⟩ | ⟨g, rfl, h1, h2⟩
  · exact (g (by rw [e]; exact ⟨by decide, by decide⟩)).elim
  · refine ⟨rfl, ?_, h2⟩
    rw [Int.toNat_natCast] at h1
    have hs := freeL_set S.U f 1 hf
    rw [if_pos rfl] at hs
    rw [hs] at h1
    exact h.go (S' := useF S f 1) h1 h2
theorem TL.swap {w0 w w3 : World} {pm bl p b bi t : Nat} {S : PS} {B : Nat → Nat → Int} {root : Nat} {own own' : List Nat} {ov v' : Value} (h : TL w0 w pm bl p b bi t S B root own ov) (h4 : w3.ownsRow w0.heap.size 3 1 v' own'.length (ownV own')) (hc : Chg (fun i => ov.ownBlock = some i) w w3) (hw : ∀ g, v'.ownBlock = some g → ov.ownBlock = some g ∨ w.heap.size ≤ g) :
    TL w0 (w3.setCell ⟨t, 3, none⟩ v') pm bl p b bi t S B root own' v' ∧ Chg (fun i => i = t ∨ ov.ownBlock = some i) w (w3.setCell ⟨t, 3, none⟩ v') := by
  obtain ⟨a1, a2, a3, a4, a5, a6, a7, a8, a9, a10, a11⟩ := h.n1
  have lt_ : t < w.heap.size := blt (show Blk w t _ _ from h.st)
  have hst3 := hc.blk (show Blk w t _ _ from h.st) (fun x => (h.n2 t x).2.2.2.2.2 rfl)
  have hC : Chg (fun i => i = t ∨ ov.ownBlock = some i) w (w3.setCell ⟨t, 3, none⟩ v') := (hc.mono (fun i _ x => .inr x)).set (p := ⟨t, 3, none⟩) (.inl (.inl rfl)) v'
  have hst := bset (show Blk w3 t _ _ from hst3) 3 v'
  have no : ∀ g, (g = p ∨ g = bi ∨ g = b ∨ g = pm ∨ g = bl) → ¬ (g = t ∨ ov.ownBlock = some g) := fun g hg x => by
    rcases x with rfl | x
    · rcases hg with y | y | y | y | y
      · exact a7 y
      · exact a8 y
      · exact a9 y
      · exact a10 y
      · exact a11 y
    · have n := h.n2 g x
      rcases hg with y | y | y | y | y
      · exact n.1 y
      · exact n.2.1 y
      · exact n.2.2.1 y
      · exact n.2.2.2.1 y
      · exact n.2.2.2.2.1 y
  have hbig : ∀ g, ov.ownBlock = some g → w0.heap.size ≤ g := fun g hg => (Own.own_ge h.row g hg).1
  have hn2 : ∀ g, v'.ownBlock = some g → g ≠ p ∧ g ≠ bi ∧ g ≠ b ∧ g ≠ pm ∧ g ≠ bl ∧ g ≠ t := fun g hg => by
    rcases hw g hg with x | x
    · exact h.n2 g x
    · have l0 := blt h.pl.at_.fr.st
      have l1 := blt h.pl.at_.fr.xs
      obtain ⟨C, l3, _⟩ := h.pl.at_.st
      have l3 := blt l3
      have l4 := blt h.rm.st
      obtain ⟨C2, l5, _⟩ := h.rm.xs
      have l5 := blt l5
      exact ⟨by omega, by omega, by omega, by omega, by omega, by omega⟩
  refine ⟨⟨⟨h.pl.at_.chg hC (no p (.inl rfl)) (no b (.inr (.inr (.inl rfl)))) (no bi (.inr (.inl rfl))), h.pl.ch.trans hC (fun i hi x => ?_), h.pl.lp, h.pl.lb, h.pl.li⟩, h.rm.chg hC (no pm (.inr (.inr (.inr (.inl rfl))))) (no bl (.inr (.inr (.inr (.inr rfl))))), hst, ?_, h.by_, h.lo, h.n1, hn2⟩, hC⟩
  · rcases x with rfl | x
    · have := h.lo.2.2; omega
    · have := hbig i x; omega
  · exact Own.own_chg h4 ((Chg.refl (· = t) w3).set (p := ⟨t, 3, none⟩) (.inl rfl) v') (fun g hg x => (hn2 g hg).2.2.2.2.2 x)
def DropTo (w0 w : World) (pm bl p b bi t : Nat) (S : PS) (B : Nat → Nat → Int) (root : Nat) (own : List Nat) (ov : Value) (f : Nat) (e : Ending) (w' : World) : Prop :=
  e = .returned (.tuple #[]) ∧ Chg (TX p bi bl t ov) w w' ∧ ∃ ov', TL w0 w' pm bl p b bi t (useF S f 1) B root (own.filter (fun x => decide (x ≠ f))) ov' ∧ ov'.ownBlock = ov.ownBlock
set_option maxHeartbeats 4000000 in
theorem drop_any {w0 w : World} {pm bl p b bi t : Nat} {S : PS} {B : Nat → Nat → Int} {root : Nat} {own : List Nat} {ov : Value} (f : Nat) (h : TL w0 w pm bl p b bi t S B root own ov) (hlen : own.length ≤ 1024) (hm : f ∈ own) (hf : f < 1024) (hu : S.U f = 2) :
    Calls Try.prog 55 #[.pointer (some ⟨t, 0, none⟩), .int .i64 (f : Int)] w (DropTo w0 w pm bl p b bi t S B root own ov f) := by
  have cA : Chg NoB w (w.alloc (.cells #[.int .i64 (f : Int)] 3)) := (Chg.refl NoB w).alloc _
  have hA := h.keep cA
  have hD := hA.keep ((Chg.refl NoB _).drew)
  have hfr := tfree_any f hD.pl hf hu
  have bA : Blk (w.alloc (.cells #[.int .i64 (f : Int)] 3)) w.heap.size #[.int .i64 (f : Int)] 3 := bnew w _
  have x1 : (w.alloc (.cells #[.int .i64 (f : Int)] 3)).drew.cell? ⟨t, 1, none⟩ = some (.pointer (some ⟨p, 0, none⟩)) := by rw [bcell hD.st]; rfl
  have x2 : (w.alloc (.cells #[.int .i64 (f : Int)] 3)).drew.cell? ⟨w.heap.size, 0, none⟩ = some (.int .i64 (f : Int)) := by
    show (w.alloc (.cells #[.int .i64 (f : Int)] 3)).cell? ⟨w.heap.size, 0, none⟩ = _
    rw [bcell bA]; rfl
  have hX := And.intro x1 x2
  have fin1 : ∀ w2, PL w0 w2 p b bi (useF S f 1) → Chg (fun i => i = p ∨ i = bi) (w.alloc (.cells #[.int .i64 (f : Int)] 3)).drew w2 → TL w0 w2 pm bl p b bi t (useF S f 1) B root own ov ∧ Blk w2 w.heap.size #[.int .i64 (f : Int)] 3 ∧ w2.cell? ⟨t, 1, none⟩ = some (.pointer (some ⟨p, 0, none⟩)) ∧ w2.cell? ⟨w.heap.size, 0, none⟩ = some (.int .i64 (f : Int)) := fun w2 k1 k2 => by
    have l0 := blt h.pl.at_.fr.xs
    obtain ⟨C, l3, _⟩ := h.pl.at_.st
    have l3 := blt l3
    have b2 : Blk w2 w.heap.size #[.int .i64 (f : Int)] 3 := k2.blk (show Blk (w.alloc (.cells #[.int .i64 (f : Int)] 3)).drew _ _ _ from bA) (fun x => by rcases x with x | x <;> omega)
    have h2 := hD.pool k1 k2
    exact ⟨h2, b2, by rw [bcell h2.st]; rfl, by rw [bcell b2]; rfl⟩
  have F1 := Lib.hid fin1
  have F2 := Lib.hid (show ∀ g, ov.ownBlock = some g → g ≠ w.heap.size from fun g hg => by have := blt (Own.own_ge h.row g hg).2.choose_spec; omega)
  have H := Lib.hid h
  clear fin1 h cA hA hD bA
  go_enter Try.func55, Try.ntmps55
  go_wp2_with fail
  go_region_held3 (fun w' => w'.cell? ⟨t, 1, none⟩ = some (.pointer (some ⟨p, 0, none⟩)) ∧ w'.cell? ⟨w.heap.size, 0, none⟩ = some (.int .i64 (f : Int))) (first | go_keep | exact f4)
    (first | (go_at_call 42; ((with_reducible refine hfr.mono ?_); rintro e w2 ⟨rfl, hp2, hC2⟩; have h2 := F1.out w2 hp2 hC2; have f4 := h2.2.2)))
  obtain ⟨h2, b2, _, _⟩ := h2
  have hn : own.length ≠ 0 := fun e => by rw [List.length_eq_zero_iff] at e; rw [e] at hm; cases hm
  have hdel := del_any f h2.row b2 (fun g hg => (F2.out g hg)) hn hlen
  obtain ⟨A, c, hov⟩ := own_form h2.row
  have y3 : w2.cell? ⟨t, 3, none⟩ = some ov := by rw [bcell h2.st]; rfl
  have H2 := Lib.hid (And.intro h2 hC2)
  clear hfr x1 x2 hX F1 f4 hp2 hC2 b2
  subst hov
  go_wp2_with fail
  refine hdel.mono ?_
  obtain ⟨L, hL⟩ : ∃ L, L = own.filter (fun x => decide (x ≠ f)) := ⟨_, rfl⟩
  rw [← hL]
  rintro e w3 ⟨v', rfl, hown3, hC3, hob⟩
  have hsw := H2.out.1.swap hown3 hC3 (fun g hg => .inl (by rw [← hob]; exact hg))
  obtain ⟨A', c', rfl⟩ := own_form hown3
  have hst3 := hC3.blk (show Blk w2 t _ _ from H2.out.1.st) (fun x => (H2.out.1.n2 t x).2.2.2.2.2 rfl)
  have y4 : w3.cell? ⟨t, 3, none⟩ = some (.slice A own.length c) := by rw [bcell hst3]; rfl
  have q4 := bfroz hst3 3
  have F := Lib.hid (show DropTo w0 w pm bl p b bi t S B root own (.slice A own.length c) f (.returned (.tuple #[])) _ from by
    unfold DropTo
    rw [← hL]
    refine ⟨rfl, ?_, _, hsw.1, hob⟩
    have cA : Chg NoB w (w.alloc (.cells #[.int .i64 (f : Int)] 3)).drew := ((Chg.refl NoB w).alloc _).drew
    refine ((cA.mono (fun _ _ x => x.elim)).trans H2.out.2 (fun i hi x => ?_)).trans hsw.2 (fun i hi x => ?_)
    · rcases x with x | x
      · exact .inl x
      · exact .inr (.inl x)
    · rcases x with x | x
      · exact .inr (.inr (.inr (.inl x)))
      · exact .inr (.inr (.inr (.inr x))))
  clear hL hdel y3 hown3 hC3 hob hsw hst3 h2 H2 H F2
  go_wp2_with fail
  refine bodyPost_ret (results_none rfl _ _ _) rfl ?_
  exact F.out
end Go.Proofs.Ytimdojkhdneecaa.Tree

namespace Go.Proofs.Ytimdojkhdneecaa.Tree
open Go.RowKit Go.Proofs.Ytimdojkhdneecaa.Hp Go.Proofs.Ytimdojkhdneecaa.Ram Go.Proofs.Ytimdojkhdneecaa.Word Go.Proofs.Ytimdojkhdneecaa.WordP Go.Proofs.Ytimdojkhdneecaa.Pool
set_option linter.unusedVariables false
set_option linter.unusedSimpArgs false
/-- what a call leaves behind -/
def Aft (w0 w : World) (pm bl p b bi t : Nat) (S : PS) (B : Nat → Nat → Int) (root : Nat) (ov : Value) (s : TS) (ek ep : Nat) (S' : PS) (B' : Nat → Nat → Int) (s' : TS) (ov' : Value) (w' : World) : Prop :=
  TI w0 w' pm bl p b bi t S' B' root ov' s' ek ep ∧ Mv S B s.own S' B' s'.own ∧ s'.E = s.E ∧ Chg (TX p bi bl t ov) w w'
def PrRel (w0 w : World) (pm bl p b bi t : Nat) (S : PS) (B : Nat → Nat → Int) (root : Nat) (ov : Value) (s : TS) (pg o : Nat) (l : List Nat) (i : Value) (wr : World) : Prop :=
  ∃ (k : Nat) (S' : PS) (B' : Nat → Nat → Int) (s' : TS) (ov' : Value), i = .int .i64 (k : Int) ∧ k < l.length ∧ Aft w0 w pm bl p b bi t S B root ov s k (pre pg k) S' B' s' ov' wr ∧ ov'.ownBlock = ov.ownBlock ∧ (∀ j, j ≤ k → ∃ f, l[j]? = some f ∧ s'.T j (pre pg j) = some f) ∧ Blk wr o (digA pg) 67 ∧ w.heap.size ≤ o
def PruneTo (w0 w : World) (pm bl p b bi t : Nat) (S : PS) (B : Nat → Nat → Int) (root : Nat) (ov : Value) (s : TS) (e : Ending) (w' : World) : Prop :=
  e = .returned (.tuple #[]) ∧ ∃ S' B' s' ov', Aft w0 w pm bl p b bi t S B root ov s 0 0 S' B' s' ov' w' ∧ ov'.ownBlock = ov.ownBlock
theorem TI.lts {w0 w : World} {pm bl p b bi t : Nat} {S : PS} {B : Nat → Nat → Int} {root : Nat} {ov : Value} {s : TS} {ek ep : Nat} (h : TI w0 w pm bl p b bi t S B root ov s ek ep) : ∀ i, TX p bi bl t ov i → i < w.heap.size := fun i hi => by
  have l1 := blt h.tl.pl.at_.fr.xs
  obtain ⟨C, l3, _⟩ := h.tl.pl.at_.st
  have l3 := blt l3
  obtain ⟨C2, l5, _⟩ := h.tl.rm.xs
  have l5 := blt l5
  have l6 := blt (show Blk w t _ _ from h.tl.st)
  rcases hi with rfl | rfl | rfl | rfl | x
  · exact l3
  · exact l1
  · exact l5
  · exact l6
  · exact blt (Own.own_ge h.tl.row i x).2.choose_spec
set_option maxHeartbeats 4000000 in
theorem prune_any {w0 w : World} {pm bl p b bi t : Nat} {S : PS} {B : Nat → Nat → Int} {root : Nat} {ov lv : Value} {s : TS} {pg k0 base : Nat} {l : List Nat} (hpg : pg < 4096) (h : TI w0 w pm bl p b bi t S B root ov s k0 (pre pg k0)) (hl : l.length = k0 + 1) (hl4 : k0 < 4) (hw : ∀ j, j ≤ k0 → ∃ f, l[j]? = some f ∧ s.T j (pre pg j) = some f)
    (hr : w.ownsRow base 3 1 lv (k0 + 1) (ownV l)) (ha : ∀ g, lv.ownBlock = some g → ¬ TX p bi bl t ov g) :
    Calls Try.prog 33 #[.pointer (some ⟨t, 0, none⟩), .int .i64 (pg : Int), lv] w (PruneTo w0 w pm bl p b bi t S B root ov s) := by
  obtain ⟨g, c, rfl, hg, hcn⟩ := own_pos hr (Nat.succ_ne_zero k0)
  have hdg := digits_any pg hpg w
  have e1 : ((k0 + 1 : Nat) : Int) - 1 = k0 := by omega
  have e2 : wrap64 ((k0 : Int)) = (k0 : Int) := w64_id' _ (by omega) (by omega)
  have H := Lib.hid (And.intro h (And.intro hw (And.intro hr ha)))
  clear h hw hr ha
  go_enter Try.func33, Try.ntmps33
  go_wp2_with fail
  refine hdg.mono ?_
  rintro e w1 ⟨rfl, hC1⟩
  have hR : PrRel w0 w pm bl p b bi t S B root ov s pg w1.heap.size l (.int .i64 (k0 : Int)) (w1.alloc (.cells (digA pg) 67)) := by
    obtain ⟨h, hw, hr, ha⟩ := H.out
    have cc : Chg NoB w (w1.alloc (.cells (digA pg) 67)) := hC1.alloc _
    exact ⟨k0, S, B, s, ov, rfl, by omega, ⟨h.keep cc, Mv.refl _ _ _, rfl, cc.mono (fun _ _ x => x.elim)⟩, rfl, hw, bnew w1 _, hC1.size⟩
  have hRH := Lib.hid hR
  clear hR hdg hC1
  go_wp2_with fail
  have hB2 := hRH.out
  clear hRH
  go_loopw [7] (fun i wr => PrRel w0 w pm bl p b bi t S B root ov s pg w1.heap.size l i wr) (fun i wr => (intOf i).toNat)
  case atStart => exact hB2
  case round =>
    clear hB2
    obtain ⟨k, S', B', s', ov', rfl, hk, ⟨hT, hM, hE, hC⟩, hob, hw', hb, ho⟩ := hrel
    rcases (by omega : k = 0 ∨ 0 < k) with hk0 | hk0
    · have d1 : decide ((0 : Int) < (k : Int)) = false := decide_eq_false (by omega)
      have d2 : decide (0 < k) = false := decide_eq_false (by omega)
      have F := Lib.hid (show PruneTo w0 w pm bl p b bi t S B root ov s (.returned (.tuple #[])) wr from by
        refine ⟨rfl, S', B', s', ov', ⟨⟨hT.tl, ?_, hT.rt, hT.fit, hT.use⟩, hM, hE, hC⟩, hob⟩
        have := hT.ok
        rw [hk0, pre_zero hpg] at this
        exact this)
      clear hT hM hE hC hob hw' hb ho H hk0 hk
      go_wp2_with fail
      refine bodyPost_ret (results_none rfl _ _ _) rfl ?_
      exact F.out
    · obtain ⟨kp, hkp⟩ : ∃ kp, k = kp + 1 := ⟨k - 1, by omega⟩
      have d1 : decide ((0 : Int) < (k : Int)) = true := decide_eq_true (by omega)
      have d2 : decide (0 < k) = true := decide_eq_true (by omega)
      have e3 : wrap64 ((k : Int) - 1) = (kp : Int) := by rw [w64_id' _ (by omega) (by omega)]; omega
      have e4 : IntKind.i64.wrap ((k : Int) - 1) = (kp : Int) := by rw [IntWalk.i64_in _ ⟨by omega, by omega⟩]; omega
      have i1 : k < k0 + 1 := by omega
      have i2 : kp < k0 + 1 := by omega
      have i3 : kp < 4 := by omega
      have i4 : kp ≤ k0 := by omega
      have i5 : (kp : Int) < 4 := by omega
      have i6 : (kp : Int) < (k0 : Int) + 1 := by omega
      have hrow : wr.ownsRow base 3 1 (.slice (some ⟨g, 0, none⟩) (k0 + 1) c) (k0 + 1) (ownV l) := Own.own_chg H.out.2.2.1 hC H.out.2.2.2
      obtain ⟨f, hf, hTf⟩ := hw' k (Nat.le_refl _)
      have z1 : wr.cell? ⟨g, k, none⟩ = some (.int .i64 (f : Int)) := by
        rw [hrow.cellAt k (by omega)]
        exact ownV_at hf
      obtain ⟨hf1, hf2⟩ := hT.at_ hTf
      have hem := empty_any (D := fun _ => false) f hf1 rfl hT.tl.st hT.tl.rm hT.tl.by_
      have HT := Lib.hid (And.intro hT (And.intro hM (And.intro hE (And.intro hC (And.intro hob (And.intro hw' (And.intro hb (And.intro ho (And.intro hrow (And.intro hkp hTf))))))))))
      clear hT hM hE hC hob hw' hb ho hrow hkp hTf hk0 hf
      go_wp2_with fail
      refine hem.mono ?_
      rintro e w2 ⟨⟨v, hv, rfl⟩, hC2⟩
      have HV := Lib.hid (And.intro hv hC2)
      clear hem hv hC2
      cases v with
      | false =>
        have F := Lib.hid (show PruneTo w0 w pm bl p b bi t S B root ov s (.returned (.tuple #[])) w2 from by
          obtain ⟨hT, hM, hE, hC, hob, hw', hb, ho, hrow, hkp, hTf⟩ := HT.out
          refine ⟨rfl, S', B', s', ov', ⟨⟨(hT.keep HV.out.2).tl, ?_, hT.rt, hT.fit, hT.use⟩, hM, hE, hC.trans HV.out.2 (fun _ _ x => x.elim)⟩, hob⟩
          refine tok_done hT.ok hTf (.inr ?_)
          have hno : ¬ ∀ n, n < 8 → numM B' f n = 0 := fun x => by have := HV.out.1.mpr x; cases this
          rcases Classical.em (∃ n, n < 8 ∧ s'.M f n ≠ 0) with x | x
          · exact x
          · exact absurd (fun n hn => by
              rw [← hT.fit f n hn]
              rcases Classical.em (s'.M f n = 0) with y | y
              · exact y
              · exact absurd ⟨n, hn, y⟩ x) hno)
        clear HV HT H
        go_wp2_with fail
        refine bodyPost_ret (results_none rfl _ _ _) rfl ?_
        exact F.out
      | true =>
        have hT2 := HT.out.1.keep HV.out.2
        have hfm : f ∈ s'.own := (hT2.ok.mem f).mpr ⟨k, _, HT.out.2.2.2.2.2.2.2.2.2.2⟩
        have hdr := drop_any f hT2.tl hT2.len hfm hf1 hf2
        have z2 : w2.cell? ⟨g, k, none⟩ = some (.int .i64 (f : Int)) := HV.out.2.cell z1 (fun x => x)
        clear hT2 hfm z1
        go_wp2_with fail
        refine hdr.mono ?_
        rintro e w3 ⟨rfl, hC3, ov2, hTL3, hob3⟩
        obtain ⟨g2, hg2, hTg⟩ := HT.out.2.2.2.2.2.1 kp (by have := HT.out.2.2.2.2.2.2.2.2.2.1; omega)
        obtain ⟨hg1, _⟩ := HT.out.1.at_ hTg
        have hTX : ∀ i, TX p bi bl t ov' i ↔ TX p bi bl t ov i := fun i => by unfold TX; rw [HT.out.2.2.2.2.1]
        have hC3' : Chg (TX p bi bl t ov) w w3 := (HT.out.2.2.2.1.trans HV.out.2 (fun _ _ x => x.elim)).trans hC3 (fun i _ x => (hTX i).mp x)
        have hrow3 : w3.ownsRow base 3 1 (.slice (some ⟨g, 0, none⟩) (k0 + 1) c) (k0 + 1) (ownV l) := Own.own_chg H.out.2.2.1 hC3' H.out.2.2.2
        have hlt := H.out.1.lts
        have hb3 : Blk w3 w1.heap.size (digA pg) 67 := by
          obtain ⟨_, _, _, _, _, _, hb, ho, _⟩ := HT.out
          exact hC3.blk (HV.out.2.blk hb (fun x => x)) (fun x => by have := hlt _ ((hTX _).mp x); omega)
        have x1 : w3.cell? ⟨g, kp, none⟩ = some (.int .i64 (g2 : Int)) := by
          rw [hrow3.cellAt kp (by omega)]
          exact ownV_at hg2
        have x2 : w3.cell? ⟨w1.heap.size, kp, none⟩ = some (.int .i64 (dig pg kp : Nat)) := by rw [bcell hb3, digA_at pg kp (by omega)]
        have hD := hTL3.keep ((Chg.refl NoB w3).drew)
        have hpt := tput_any (D := fun _ => false) g2 (dig pg kp) 0 hD.st hD.rm hg1 (dig_lt _ _) rfl (by decide) (by decide)
        have fin : ∀ w4, RRam w4 pm bl 1024 (Ram.upd B' g2 (dig pg kp * 8) (digs 0 8)) (fun _ => false) → Chg (· = bl) w3.drew w4 → PrRel w0 w pm bl p b bi t S B root ov s pg w1.heap.size l (.int .i64 (kp : Int)) w4 ∧ w4.cell? ⟨g, kp, none⟩ = some (.int .i64 (g2 : Int)) ∧ w4.cell? ⟨w1.heap.size, kp, none⟩ = some (.int .i64 (dig pg kp : Nat)) := fun w4 k1 k2 => by
          obtain ⟨hT, hM, hE, hC, hob, hw', hb, ho, hrow, hkp, hTf⟩ := HT.out
          subst hkp
          have hps := pre_succ pg kp (by omega)
          have hdp : dig pg kp = pre pg (kp + 1) % 8 := dig_pre pg kp (by omega)
          have h4 := hD.ram k1 (byte_put hD.by_ _ _ _ (digs_bytes 0 8)) k2
          rw [hdp] at h4
          have hz : ∀ n, n < 8 → s'.M f n = 0 := fun n hn => by rw [hT.fit f n hn]; exact HV.out.1.mp trivial n hn
          have hgg : s'.T kp (pre pg (kp + 1) / 8) = some g2 := by rw [hps]; exact hTg
          obtain ⟨q1, q2⟩ := hT.dropped hgg hTf hz h4
          have cc : Chg (TX p bi bl t ov) w w4 := hC3'.drew.trans k2 (fun i _ x => .inr (.inr (.inl x)))
          have nbl : ∀ i, ¬ TX p bi bl t ov i → i ≠ bl := fun i h e => h (.inr (.inr (.inl e)))
          refine ⟨⟨kp, _, _, _, ov2, rfl, by omega, ⟨by rw [hps] at q1; exact q1, hM.trans q2, hE, cc⟩, hob3.trans hob, fun j hj => ?_, ?_, ho⟩, ?_, ?_⟩
          · obtain ⟨f', y1, y2⟩ := hw' j (by omega)
            refine ⟨f', y1, ?_⟩
            show setT s'.T (kp + 1) _ none j _ = _
            rw [setT_ne (fun x => by omega)]
            exact y2
          · exact k2.blk (show Blk w3.drew _ _ _ from hb3) (fun x => by have : w1.heap.size = bl := x; have := hlt bl (.inr (.inr (.inl rfl))); omega)
          · exact k2.cell x1 (fun x => nbl g (H.out.2.2.2 g rfl) x)
          · exact k2.cell x2 (fun x => by have : w1.heap.size = bl := x; have := hlt bl (.inr (.inr (.inl rfl))); have := HT.out.2.2.2.2.2.2.2.1; omega)
        have FI := Lib.hid fin
        have x3 : w3.drew.cell? ⟨g, kp, none⟩ = some (.int .i64 (g2 : Int)) ∧ w3.drew.cell? ⟨w1.heap.size, kp, none⟩ = some (.int .i64 (dig pg kp : Nat)) := ⟨x1, x2⟩
        have HK := Lib.hid HT.out.2.2.2.2.2.2.2.2.2.1
        clear hdr z2 fin hD hb3 hrow3 hC3' hTX hTg hg2 hob3 hTL3 hC3 HV HT H hlt
        go_wp2_with fail
        go_region_held3 (fun w' => w'.cell? ⟨g, kp, none⟩ = some (.int .i64 (g2 : Int)) ∧ w'.cell? ⟨w1.heap.size, kp, none⟩ = some (.int .i64 (dig pg kp : Nat))) (first | go_keep | exact f4)
          (first | (go_at_call 32; ((with_reducible refine hpt.mono ?_); rintro e w4 ⟨rfl, hR4, hC4⟩; have h4 := FI.out w4 hR4 hC4; have f4 := h4.2)))
        have F := h4.1
        clear hpt x1 x2 x3 FI f4 hR4 hC4 h4
        go_wp2_with fail
        exact ⟨F, by have := HK.out; simp [intOf]; omega⟩
end Go.Proofs.Ytimdojkhdneecaa.Tree

namespace Go.Proofs.Ytimdojkhdneecaa.Tree
open Go.RowKit Go.Proofs.Ytimdojkhdneecaa.Hp Go.Proofs.Ytimdojkhdneecaa.Ram Go.Proofs.Ytimdojkhdneecaa.Word Go.Proofs.Ytimdojkhdneecaa.WordP Go.Proofs.Ytimdojkhdneecaa.Pool
set_option linter.unusedVariables false
set_option linter.unusedSimpArgs false
/-- k tables of the way are there -/
structure GrSt (w0 w : World) (pm bl p b bi t : Nat) (S : PS) (B : Nat → Nat → Int) (root : Nat) (ov : Value) (s : TS) (pg L bs : Nat) (lv0 lv : Value) (k : Nat) (path : List Nat) (S' : PS) (B' : Nat → Nat → Int) (s' : TS) (ov' : Value) (w' : World) : Prop where
  ti : TI w0 w' pm bl p b bi t S' B' root ov' s' (k - 1) (pre pg (k - 1))
  mv : Mv S B s.own S' B' s'.own
  en : s'.E = s.E
  ch : Chg (fun i => TX p bi bl t ov i ∨ lv0.ownBlock = some i) w w'
  ob : ∀ g, ov'.ownBlock = some g → ov.ownBlock = some g ∨ w.heap.size ≤ g
  cnt : s'.own.length = s.own.length + (k - L)
  len : path.length = k
  le : 1 ≤ k ∧ L ≤ k ∧ k ≤ 4
  way : WayP s' pg path
  no : k < 4 → s'.T k (pre pg k) = none
  row : w'.ownsRow bs 3 1 lv k (ownV path)
  off : ∀ g, lv.ownBlock = some g → ¬ TX p bi bl t ov' g ∧ (lv0.ownBlock = some g ∨ w.heap.size ≤ g)
def GrRel (w0 w : World) (pm bl p b bi t : Nat) (S : PS) (B : Nat → Nat → Int) (root : Nat) (ov : Value) (s : TS) (pg L bs o : Nat) (lv0 lv i : Value) (wr : World) : Prop :=
  ∃ (k : Nat) (path : List Nat) (S' : PS) (B' : Nat → Nat → Int) (s' : TS) (ov' : Value), i = .int .i64 (k : Int) ∧ GrSt w0 w pm bl p b bi t S B root ov s pg L bs lv0 lv k path S' B' s' ov' wr ∧ Blk wr o (digA pg) 67 ∧ w.heap.size ≤ o
def GrowTo (w0 w : World) (pm bl p b bi t : Nat) (S : PS) (B : Nat → Nat → Int) (root : Nat) (ov : Value) (s : TS) (pg L bs : Nat) (lv0 : Value) (e : Ending) (w' : World) : Prop :=
  (∃ lv path S' B' s' ov', e = .returned (.tuple #[lv, .int .i64 0]) ∧ GrSt w0 w pm bl p b bi t S B root ov s pg L bs lv0 lv 4 path S' B' s' ov' w') ∨
  (∃ S' B' s' ov', e = .returned (.tuple #[.slice none 0 0, .int .i64 4]) ∧ TI w0 w' pm bl p b bi t S' B' root ov' s' 0 0 ∧ Mv S B s.own S' B' s'.own ∧ s'.E = s.E ∧ Chg (fun i => TX p bi bl t ov i ∨ lv0.ownBlock = some i) w w' ∧ (∀ g, ov'.ownBlock = some g → ov.ownBlock = some g ∨ w.heap.size ≤ g) ∧ capN S s.own < s.own.length + (4 - L))
/-- a row of numbers of the call's own beside a tree -/
theorem TL.side {w0 w w' : World} {pm bl p b bi t : Nat} {S : PS} {B : Nat → Nat → Int} {root : Nat} {own : List Nat} {ov lv : Value} {bs n : Nat} {xs : List Value} (h : TL w0 w pm bl p b bi t S B root own ov) (hrow : w.ownsRow bs 3 1 lv n xs) (hbs : w0.heap.size ≤ bs) (hoff : ∀ g, lv.ownBlock = some g → ¬ TX p bi bl t ov g) (hc : Chg (fun i => lv.ownBlock = some i) w w') : TL w0 w' pm bl p b bi t S B root own ov := by
  have npm : ¬ lv.ownBlock = some pm := fun x => by
    obtain ⟨C, hC⟩ := (Own.own_ge hrow pm x).2
    have := hC.symm.trans h.rm.st
    simp at this
  have nb : ¬ lv.ownBlock = some b := fun x => by
    obtain ⟨C, hC⟩ := (Own.own_ge hrow b x).2
    have := hC.symm.trans h.pl.at_.fr.st
    simp at this
  have ge0 : ∀ i, lv.ownBlock = some i → w0.heap.size ≤ i := fun i hi => Nat.le_trans hbs (Own.own_ge hrow i hi).1
  exact ⟨⟨h.pl.at_.chg hc (fun x => hoff p x (.inl rfl)) nb (fun x => hoff bi x (.inr (.inl rfl))), h.pl.ch.trans hc (fun i hi x => absurd hi (Nat.not_lt_of_le (ge0 i x))), h.pl.lp, h.pl.lb, h.pl.li⟩, h.rm.chg hc npm (fun x => hoff bl x (.inr (.inr (.inl rfl)))), hc.blk (show Blk w t _ _ from h.st) (fun x => hoff t x (.inr (.inr (.inr (.inl rfl))))), Own.own_chg h.row hc (fun g hg x => hoff g x (.inr (.inr (.inr (.inr hg))))), h.by_, h.lo, h.n1, h.n2⟩
section
variable {w0 w : World} {pm bl p b bi t : Nat} {S : PS} {B : Nat → Nat → Int} {root : Nat} {ov : Value} {s : TS} {pg L bs k : Nat} {lv0 lv : Value} {path : List Nat} {S' : PS} {B' : Nat → Nat → Int} {s' : TS} {ov' : Value} {wr : World}
/-- a block of digits is none of the tree's -/
theorem GrSt.offo {o : Nat} (hG : GrSt w0 w pm bl p b bi t S B root ov s pg L bs lv0 lv k path S' B' s' ov' wr) (hlt : ∀ i, TX p bi bl t ov i → i < w.heap.size) (hb : Blk wr o (digA pg) 67) (ho : w.heap.size ≤ o) : ¬ TX p bi bl t ov' o := by
  intro x
  rcases x with x | x | x | x | x
  · exact absurd (hlt o (.inl x)) (Nat.not_lt_of_le ho)
  · exact absurd (hlt o (.inr (.inl x))) (Nat.not_lt_of_le ho)
  · exact absurd (hlt o (.inr (.inr (.inl x)))) (Nat.not_lt_of_le ho)
  · exact absurd (hlt o (.inr (.inr (.inr (.inl x))))) (Nat.not_lt_of_le ho)
  · obtain ⟨C, hC⟩ := (Own.own_ge hG.ti.tl.row o x).2
    have := hC.symm.trans hb
    simp at this
theorem GrSt.offl {o : Nat} (hG : GrSt w0 w pm bl p b bi t S B root ov s pg L bs lv0 lv k path S' B' s' ov' wr) (hb : Blk wr o (digA pg) 67) : lv.ownBlock ≠ some o := by
  intro x
  obtain ⟨C, hC⟩ := (Own.own_ge hG.row o x).2
  have := hC.symm.trans hb
  simp at this
/-- a table more: the tree's part -/
theorem GrSt.mid {f g2 : Nat} {w2 w4 : World} {ov2 : Value} (hpg : pg < 4096) (hG : GrSt w0 w pm bl p b bi t S B root ov s pg L bs lv0 lv k path S' B' s' ov' wr) (hk : k < 4) (hC2 : Chg (TX p bi bl t ov') wr w2) (hf : f < 1024) (hu : S'.U f = 1)
    (hT2 : TL w0 w2 pm bl p b bi t (useF S' f 2) (Ram.upd B' f 0 (List.replicate 64 0)) root (s'.own ++ [f]) ov2) (hg2 : s'.T (k - 1) (pre pg (k - 1)) = some g2)
    (hr : RRam w4 pm bl 1024 (Ram.upd (Ram.upd B' f 0 (List.replicate 64 0)) g2 (dig pg (k - 1) * 8) (digs ((f : Int) + 1) 8)) (fun _ => false)) (hC4 : Chg (· = bl) w2 w4) :
    TI w0 w4 pm bl p b bi t (useF S' f 2) (Ram.upd (Ram.upd B' f 0 (List.replicate 64 0)) g2 (dig pg (k - 1) * 8) (digs ((f : Int) + 1) 8)) root ov2 (s'.grow (k - 1) (pre pg k) f g2) k (pre pg k) ∧ Mv S' B' s'.own (useF S' f 2) (Ram.upd (Ram.upd B' f 0 (List.replicate 64 0)) g2 (dig pg (k - 1) * 8) (digs ((f : Int) + 1) 8)) (s'.grow (k - 1) (pre pg k) f g2).own := by
  have hle := hG.le
  obtain ⟨kp, rfl⟩ : ∃ kp, k = kp + 1 := ⟨k - 1, by clear hG; omega⟩
  rw [show kp + 1 - 1 = kp from rfl] at *
  have hps := pre_succ pg kp (by clear hG; omega)
  have hdp : dig pg kp = pre pg (kp + 1) % 8 := dig_pre pg kp (by clear hG; omega)
  have h4 := hT2.ram hr (byte_put hT2.by_ _ _ _ (digs_bytes _ 8)) hC4
  rw [hdp] at h4 ⊢
  have hti := hG.ti
  rw [show kp + 1 - 1 = kp from rfl] at hti
  exact hti.grown (by clear hG hti; omega) (pre_lt hpg _ (by clear hG hti; omega)) (by rw [hps]; exact hg2) (hG.no hk) (.inl ⟨rfl, hps.symm⟩) hf hu h4
theorem GrSt.step {f g2 : Nat} (hbs : w0.heap.size ≤ bs) {w2 w4 w5 : World} {ov2 lv5 : Value} {S3 : PS} {B3 : Nat → Nat → Int} (hG : GrSt w0 w pm bl p b bi t S B root ov s pg L bs lv0 lv k path S' B' s' ov' wr) (hk : k < 4) (hC2 : Chg (TX p bi bl t ov') wr w2) (hC4 : Chg (· = bl) w2 w4) (hob2 : ∀ g, ov2.ownBlock = some g → ov'.ownBlock = some g ∨ wr.heap.size ≤ g)
    (hti : TI w0 w4 pm bl p b bi t S3 B3 root ov2 (s'.grow (k - 1) (pre pg k) f g2) k (pre pg k)) (hmv : Mv S' B' s'.own S3 B3 (s'.grow (k - 1) (pre pg k) f g2).own)
    (hrow : w5.ownsRow bs 3 1 lv5 (k + 1) (ownV path ++ [.int .i64 (f : Int)])) (hC5 : Chg (fun i => lv.ownBlock = some i) w4 w5) (hwh : ∀ g, lv5.ownBlock = some g → lv.ownBlock = some g ∨ w4.heap.size ≤ g) :
    GrSt w0 w pm bl p b bi t S B root ov s pg L bs lv0 lv5 (k + 1) (path ++ [f]) S3 B3 (s'.grow (k - 1) (pre pg k) f g2) ov2 w5 := by
  have hle := hG.le
  have sz := hG.ch.size
  have sz2 := hC2.size
  have sz4 := hC4.size
  have e1 : k - 1 + 1 = k := Nat.sub_add_cancel hle.1
  have hTn : (s'.grow (k - 1) (pre pg k) f g2).T k (pre pg k) = some f := by
    show setT s'.T (k - 1 + 1) (pre pg k) (some f) k (pre pg k) = _
    rw [e1]; exact setT_at _ _ _ _
  have hTo : ∀ k', k' ≠ k → ∀ q, (s'.grow (k - 1) (pre pg k) f g2).T k' q = s'.T k' q := fun k' hk' q => by
    show setT s'.T (k - 1 + 1) (pre pg k) (some f) k' q = _
    rw [e1]; exact setT_ne (fun x => hk' x.1)
  have hoff2 : ∀ g, lv.ownBlock = some g → ¬ TX p bi bl t ov2 g := fun g hg x => by
    have n := (hG.off g hg).1
    rcases x with x | x | x | x | x
    · exact n (.inl x)
    · exact n (.inr (.inl x))
    · exact n (.inr (.inr (.inl x)))
    · exact n (.inr (.inr (.inr (.inl x))))
    · rcases hob2 g x with y | y
      · exact n (.inr (.inr (.inr (.inr y))))
      · exact absurd (blt (Own.own_ge hG.row g hg).2.choose_spec) (Nat.not_lt_of_le y)
  have hrow4 : w4.ownsRow bs 3 1 lv k (ownV path) := Own.own_chg (Own.own_chg hG.row hC2 (fun g hg => (hG.off g hg).1)) hC4 (fun g hg x => hoff2 g hg (.inr (.inr (.inl x))))
  have hti5 : TI w0 w5 pm bl p b bi t S3 B3 root ov2 (s'.grow (k - 1) (pre pg k) f g2) k (pre pg k) := ⟨hti.tl.side hrow4 hbs hoff2 hC5, hti.ok, hti.rt, hti.fit, hti.use⟩
  have hlt4 := hti.lts
  have hV : ownV (path ++ [f]) = ownV path ++ [.int .i64 (f : Int)] := by unfold ownV; rw [List.map_append]; rfl
  have hlen : (s'.own ++ [f]).length = s'.own.length + 1 := by rw [List.length_append]; rfl
  refine ⟨?_, hG.mv.trans hmv, hG.en, ?_, fun g hg => ?_, ?_, ?_, ?_, fun j hj => ?_, fun h4 => ?_, ?_, fun g hg => ?_⟩
  · rw [Nat.add_sub_cancel]; exact hti5
  · refine ((hG.ch.trans hC2 (fun i hi x => ?_)).trans hC4 (fun i hi x => .inl (.inr (.inr (.inl x))))).trans hC5 (fun i hi x => ?_)
    · rcases x with x | x | x | x | x
      · exact .inl (.inl x)
      · exact .inl (.inr (.inl x))
      · exact .inl (.inr (.inr (.inl x)))
      · exact .inl (.inr (.inr (.inr (.inl x))))
      · rcases hG.ob i x with y | y
        · exact .inl (.inr (.inr (.inr (.inr y))))
        · exact absurd hi (Nat.not_lt_of_le y)
    · rcases (hG.off i x).2 with y | y
      · exact .inr y
      · exact absurd hi (Nat.not_lt_of_le y)
  · rcases hob2 g hg with y | y
    · exact hG.ob g y
    · exact .inr (Nat.le_trans sz y)
  · show (s'.own ++ [f]).length = _
    rw [hlen, hG.cnt, Nat.add_assoc, Nat.sub_add_comm hle.2.1]
  · rw [List.length_append, hG.len]; rfl
  · exact ⟨Nat.le_add_left _ _, Nat.le_trans hle.2.1 (Nat.le_succ k), hk⟩
  · rw [List.length_append, List.length_singleton, hG.len] at hj
    rcases Nat.eq_or_lt_of_le (Nat.le_of_lt_succ hj) with rfl | hj2
    · exact ⟨f, by rw [List.getElem?_append_right (Nat.le_of_eq hG.len), hG.len, Nat.sub_self]; rfl, hTn⟩
    · obtain ⟨f', y1, y2⟩ := hG.way j (by rw [hG.len]; exact hj2)
      exact ⟨f', by rw [List.getElem?_append_left (by rw [hG.len]; exact hj2)]; exact y1, by rw [hTo j (Nat.ne_of_lt hj2)]; exact y2⟩
  · rw [hTo (k + 1) (Nat.succ_ne_self k)]
    exact none_below hG.ti.ok hk (hG.no hk)
  · rw [hV]; exact hrow
  · rcases hwh g hg with y | y
    · exact ⟨hoff2 g y, (hG.off g y).2⟩
    · exact ⟨fun x => absurd (hlt4 g x) (Nat.not_lt_of_le y), .inr (Nat.le_trans (Nat.le_trans (Nat.le_trans sz sz2) sz4) y)⟩
end
set_option maxHeartbeats 4000000 in
theorem grow_any {w0 w : World} {pm bl p b bi t : Nat} {S : PS} {B : Nat → Nat → Int} {root : Nat} {ov lv : Value} {s : TS} {pg bs : Nat} {l : List Nat} (hpg : pg < 4096) (h : TI w0 w pm bl p b bi t S B root ov s 0 0) (hw : Way s pg l) (hb0 : w0.heap.size ≤ bs) (hbs : bs ≤ w.heap.size)
    (hr : w.ownsRow bs 3 1 lv l.length (ownV l)) (ha : ∀ g, lv.ownBlock = some g → ¬ TX p bi bl t ov g) (hz : ZI S s.own) :
    Calls Try.prog 29 #[.pointer (some ⟨t, 0, none⟩), .int .i64 (pg : Int), lv] w (GrowTo w0 w pm bl p b bi t S B root ov s pg l.length bs lv) := by
  obtain ⟨g, c, rfl, hg, hcn⟩ := own_pos hr (by have := hw.len; omega)
  obtain ⟨lv0, hlv⟩ : ∃ v, v = Value.slice (some ⟨g, 0, none⟩) l.length c := ⟨_, rfl⟩
  have hdg := digits_any pg hpg w
  have G0 : GrSt w0 w pm bl p b bi t S B root ov s pg l.length bs lv0 (.slice (some ⟨g, 0, none⟩) l.length c) l.length l S B s ov w :=
    ⟨⟨h.tl, tok_weak _ _ h.ok, h.rt, h.fit, h.use⟩, Mv.refl _ _ _, rfl, Chg.refl _ _, fun g hg => .inl hg, by omega, rfl, ⟨hw.len.1, Nat.le_refl _, hw.len.2⟩, hw.at_, hw.no, hr, fun g hg => ⟨ha g hg, .inl (by rw [hlv]; exact hg)⟩⟩
  have hlt := h.lts
  have hlv0 : ∀ g, lv0.ownBlock = some g → g < w.heap.size := fun g' hg' => by rw [hlv] at hg'; exact blt (Own.own_ge hr g' hg').2.choose_spec
  have H := Lib.hid (And.intro G0 (And.intro hz (And.intro hlt (And.intro hbs (And.intro h.use hlv0)))))
  clear h hw hr ha G0 hz hlt hlv0
  suffices hq : Calls Try.prog 29 #[.pointer (some ⟨t, 0, none⟩), .int .i64 (pg : Int), .slice (some ⟨g, 0, none⟩) l.length c] w (GrowTo w0 w pm bl p b bi t S B root ov s pg l.length bs lv0) by
    rw [← hlv]
    rw [← hlv] at hq
    exact hq
  clear hlv
  obtain ⟨L, hL⟩ : ∃ L, L = l.length := ⟨_, rfl⟩
  rw [← hL] at hcn ⊢
  have HL := Lib.hid hL
  clear hL
  go_enter Try.func29, Try.ntmps29
  go_wp2_with fail
  refine hdg.mono ?_
  rintro e w1 ⟨rfl, hC1⟩
  have hR : GrRel w0 w pm bl p b bi t S B root ov s pg L bs w1.heap.size lv0 (.slice (some ⟨g, 0, none⟩) L c) (.int .i64 (L : Int)) (w1.alloc (.cells (digA pg) 67)) := by
    rw [HL.out]
    have G := H.out.1
    have cc : Chg NoB w (w1.alloc (.cells (digA pg) 67)) := hC1.alloc _
    exact ⟨l.length, l, S, B, s, ov, rfl, ⟨G.ti.keep cc, G.mv, G.en, G.ch.trans cc (fun _ _ x => x.elim), G.ob, G.cnt, G.len, G.le, G.way, G.no, Own.own_chg G.row cc (fun _ _ x => x), G.off⟩, bnew w1 _, hC1.size⟩
  have H2 := Lib.hid (show ZI S s.own ∧ (∀ i, TX p bi bl t ov i → i < w.heap.size) ∧ bs ≤ w.heap.size ∧ (∀ f, f ∈ s.own → f < 1024 ∧ S.U f = 2) ∧ (∀ g, lv0.ownBlock = some g → g < w.heap.size) from H.out.2)
  have hRH := Lib.hid hR
  clear hR hdg hC1 HL H
  go_wp2_with fail
  have hB2 := hRH.out
  clear hRH
  go_loopw [2, 9] (fun v i wr => GrRel w0 w pm bl p b bi t S B root ov s pg L bs w1.heap.size lv0 v i wr) (fun v i wr => (4 - intOf i).toNat)
  case atStart => exact hB2
  case round =>
    clear hB2
    obtain ⟨k, path, S', B', s', ov', rfl, hG, hb, ho⟩ := hrel
    obtain ⟨g', c', rfl, hg', hcn'⟩ := own_pos hG.row (by have := hG.le; omega)
    have hle := hG.le
    have q4 : k = 4 ∨ k < 4 := Nat.eq_or_lt_of_le hle.2.2
    rcases q4 with hk4 | hk4
    · have d0 : decide ((k : Int) < 4) = false := decide_eq_false (by omega)
      have F := Lib.hid (show GrowTo w0 w pm bl p b bi t S B root ov s pg L bs lv0 (.returned (.tuple #[.slice (some ⟨g', 0, none⟩) k c', .int .i64 0])) wr from by
        subst hk4
        exact .inl ⟨_, path, S', B', s', ov', rfl, hG⟩)
      clear hG hb ho H2 hle hk4
      go_wp2_with fail
      go_ret2
      exact F.out
    · have d0 : decide ((k : Int) < 4) = true := decide_eq_true (by omega)
      obtain ⟨kp, hkp⟩ : ∃ kp, k = kp + 1 := ⟨k - 1, by omega⟩
      have r1 : path.length = k - 1 + 1 := by rw [hG.len, hkp]; rfl
      have r2 : k - 1 < 4 := Nat.lt_of_le_of_lt (Nat.sub_le k 1) hk4
      have r3 : ∀ j, j ≤ k - 1 → j < path.length := fun j hj => by rw [r1]; exact Nat.lt_succ_of_le hj
      have r4 : k - 1 + 1 = k := by rw [hkp]; rfl
      have i2 : kp < k := by omega
      have i3 : kp < 4 := by omega
      have i5 : (kp : Int) < 4 := by omega
      have i6 : (kp : Int) < (k : Int) := by omega
      have hms := Lib.hid (show ((4 : Int) - ((k : Int) + 1)).toNat < ((4 : Int) - (k : Int)).toNat by omega)
      have b1 : -9223372036854775808 ≤ (k : Int) - 1 ∧ (k : Int) - 1 < 9223372036854775808 := by omega
      have b3 : -9223372036854775808 ≤ (k : Int) - 1 ∧ (k : Int) - 1 ≤ 9223372036854775807 := by omega
      have b4 : (k : Int) - 1 = (kp : Int) := by omega
      have e3 : wrap64 ((k : Int) - 1) = (kp : Int) := (w64_id' _ b1.1 b1.2).trans b4
      have e4 : IntKind.i64.wrap ((k : Int) - 1) = (kp : Int) := (IntWalk.i64_in _ b3).trans b4
      clear b1 b3 b4
      have R := Lib.hid (And.intro r1 (And.intro r2 (And.intro r3 r4)))
      clear r1 r2 r3 r4
      have htb := ttable_any hG.ti.tl hG.ti.len
      have HG := Lib.hid (And.intro hG (And.intro hb (And.intro ho hkp)))
      clear hG hb ho hkp hle
      go_wp2_with fail
      refine htb.mono ?_
      rintro e w2 ⟨hC2, ⟨f, ov2, hf, hu, rfl, hT2, hob2⟩ | ⟨rfl, hT2, hno⟩⟩
      · clear htb
        obtain ⟨hG, hb, ho, hkp⟩ := HG.out
        obtain ⟨g2, hg2, hTg⟩ := hG.way kp (by rw [hG.len]; exact i2)
        have hkm : k - 1 = kp := by rw [hkp]; rfl
        obtain ⟨hg1, _⟩ := hG.ti.at_ hTg
        have hrow2 := Own.own_chg hG.row hC2 (fun g hg => (hG.off g hg).1)
        have no := hG.offo H2.out.2.1 hb ho
        have hb2 : Blk w2 w1.heap.size (digA pg) 67 := hC2.blk hb no
        have hD := hT2.keep ((Chg.refl NoB w2).drew)
        have hpt := tput_any (D := fun _ => false) g2 (dig pg kp) ((f : Int) + 1) hD.st hD.rm hg1 (dig_lt _ _) rfl (by clear hG; omega) (by clear hG; omega)
        have x3 : w2.drew.cell? ⟨g', kp, none⟩ = some (.int .i64 (g2 : Int)) ∧ w2.drew.cell? ⟨w1.heap.size, kp, none⟩ = some (.int .i64 (dig pg kp : Nat)) := by
          constructor
          · show w2.cell? ⟨g', kp, none⟩ = _
            rw [hrow2.cellAt kp (by rw [Nat.mul_one]; exact i2)]
            exact ownV_at hg2
          · show w2.cell? ⟨w1.heap.size, kp, none⟩ = _
            rw [bcell hb2, digA_at pg kp i3]
        have nbl : g' ≠ bl := fun e => (hG.off g' rfl).1 (.inr (.inr (.inl e)))
        have nol : w1.heap.size ≠ bl := fun e => no (.inr (.inr (.inl e)))
        have ngo : g' ≠ w1.heap.size := fun e => hG.offl hb (by rw [e]; rfl)
        have fin4 : ∀ w4, RRam w4 pm bl 1024 (Ram.upd (Ram.upd B' f 0 (List.replicate 64 0)) g2 (dig pg kp * 8) (digs ((f : Int) + 1) 8)) (fun _ => false) → Chg (· = bl) w2.drew w4 →
            (w4.cell? ⟨g', kp, none⟩ = some (.int .i64 (g2 : Int)) ∧ w4.cell? ⟨w1.heap.size, kp, none⟩ = some (.int .i64 (dig pg kp : Nat))) ∧ bs ≤ w4.heap.size ∧ w4.ownsRow bs 3 1 (.slice (some ⟨g', 0, none⟩) k c') k (ownV path) ∧
            ∀ v5 w5, w5.ownsRow bs 3 1 v5 (k + 1) (ownV path ++ [.int .i64 (f : Int)]) → Chg (fun i => (Value.slice (some ⟨g', 0, none⟩) k c').ownBlock = some i) w4 w5 → (∀ g, v5.ownBlock = some g → (Value.slice (some ⟨g', 0, none⟩) k c').ownBlock = some g ∨ w4.heap.size ≤ g) →
              GrRel w0 w pm bl p b bi t S B root ov s pg L bs w1.heap.size lv0 v5 (.int .i64 ((k : Int) + 1)) w5 := fun w4 k1 k2 => by
          have k3 : Chg (· = bl) w2 w4 := (((Chg.refl NoB w2).drew).mono (fun _ _ x => x.elim)).trans k2 (fun _ _ x => x)
          rw [← hkm] at hTg k1
          obtain ⟨m1, m2⟩ := hG.mid hpg hk4 hC2 hf hu hT2 hTg k1 k3
          have nrow : ∀ g, (Value.slice (some ⟨g', 0, none⟩) k c').ownBlock = some g → ¬ g = bl := fun g hg x => by
            have e : g' = g := by simpa [Value.ownBlock] using hg
            exact nbl (by rw [e]; exact x)
          refine ⟨⟨k2.cell x3.1 nbl, k2.cell x3.2 nol⟩, Nat.le_trans H2.out.2.2.1 (Nat.le_trans (hG.ch.size) (Nat.le_trans hC2.size k3.size)), Own.own_chg hrow2 k3 nrow, fun v5 w5 a1 a2 a3 => ?_⟩
          have hs := hG.step hb0 hk4 hC2 k3 hob2 m1 m2 a1 a2 a3
          exact ⟨k + 1, _, _, _, _, _, rfl, hs, a2.blk (k3.blk hb2 nol) (fun x => ngo (by simpa [Value.ownBlock] using x)), ho⟩
        have FI := Lib.hid fin4
        have c1 : IntKind.u64.wrap (f : Int) = f := IntWalk.u64_in _ ⟨by clear hG; omega, by clear hG; omega⟩
        have c2 : IntKind.u64.wrap ((f : Int) + 1) = (f : Int) + 1 := IntWalk.u64_in _ ⟨by clear hG; omega, by clear hG; omega⟩
        have l1 : k + 1 ≤ 9223372036854775807 := Nat.le_trans (Nat.succ_le_succ (Nat.le_of_lt hk4)) (by decide)
        have l2 : (k + 1) * 8 ≤ 140737488355328 := Nat.le_trans (Nat.mul_le_mul_right 8 (Nat.succ_le_succ (Nat.le_of_lt hk4))) (by decide)
        have HK := Lib.hid hk4
        clear fin4 hG hb ho hkp hTg hg2 hkm hg1 hrow2 no hb2 hD nbl nol ngo HG R H2 hC2 hT2 hob2 hf hu hk4
        go_wp2_with fail
        go_region_held3 (fun w' => w'.cell? ⟨g', kp, none⟩ = some (.int .i64 (g2 : Int)) ∧ w'.cell? ⟨w1.heap.size, kp, none⟩ = some (.int .i64 (dig pg kp : Nat))) (first | go_keep | exact f4)
          (first | (go_at_call 32; ((with_reducible refine hpt.mono ?_); rintro e w4 ⟨rfl, hR4, hC4⟩; have h4 := FI.out w4 hR4 hC4; have f4 := h4.1)))
        have hbase := h4.2.1
        have hown4 := h4.2.2.1
        have F5 := Lib.hid h4.2.2.2
        clear hpt x3 FI f4 hR4 hC4 h4 e3 e4 c1 c2
        go_wp2_with (first | (at_builtin; go_loud (refine Own.append_own3 (w := w4) (base := bs) rfl (.tmp 46) (.tmp 48) 34 3 rfl (.int .i64 0) 8 Try.underlying34 info_int rfl (.slice (some ⟨g', 0, none⟩) k c') k (ownV path) (by rfl) hbase hown4 (.int .i64 (f : Int)) 3 (by rfl) rfl l1 l2 ?_); intro v' w5 hown' hCo hwh; have F := F5.out v' w5 hown' hCo hwh) | go_in)
        exact ⟨F, hms.out⟩
      · clear htb
        obtain ⟨hG, hb, ho, hkp⟩ := HG.out
        have hTI2 : TI w0 w2 pm bl p b bi t S' B' root ov' s' (k - 1) (pre pg (k - 1)) := ⟨hT2, hG.ti.ok, hG.ti.rt, hG.ti.fit, hG.ti.use⟩
        have hrow2 := Own.own_chg hG.row hC2 (fun g hg => (hG.off g hg).1)
        have hpr := prune_any (l := path) hpg hTI2 R.out.1 R.out.2.1 (fun j hj => hG.way j (R.out.2.2.1 j hj)) (by rw [R.out.2.2.2]; exact hrow2) (fun g hg => (hG.off g hg).1)
        have fin : ∀ w3, PruneTo w0 w2 pm bl p b bi t S' B' root ov' s' (.returned (.tuple #[])) w3 → GrowTo w0 w pm bl p b bi t S B root ov s pg L bs lv0 (.returned (.tuple #[.slice none 0 0, .int .i64 4])) w3 := fun w3 hp => by
          obtain ⟨_, S3, B3, s3, ov3, ⟨a1, a2, a3, a4⟩, a5⟩ := hp
          have hmem : ∀ f, f ∈ s.own → f < 1024 := fun f hf => (H2.out.2.2.2.1 f hf).1
          have hz' := hG.mv.zi hmem H2.out.1
          have hno' : ∀ f, f < 1024 → S'.U f ≠ 1 := fun f hf hu => by
            obtain ⟨z1, z2⟩ := hz' f ⟨hf, .inl hu⟩
            exact hno f hf z1 z2 hu
          have hcap := hG.mv.cap hmem
          rw [cap_full hG.ti.ok.nodup hG.ti.use hno', hG.cnt] at hcap
          refine .inr ⟨S3, B3, s3, ov3, rfl, a1, hG.mv.trans a2, a3.trans hG.en, ?_, fun g hg => hG.ob g (by rw [← a5]; exact hg), ?_⟩
          · refine (hG.ch.trans hC2 (fun i hi x => ?_)).trans a4 (fun i hi x => ?_)
            all_goals
              rcases x with x | x | x | x | x
              · exact .inl (.inl x)
              · exact .inl (.inr (.inl x))
              · exact .inl (.inr (.inr (.inl x)))
              · exact .inl (.inr (.inr (.inr (.inl x))))
              · rcases hG.ob i x with y | y
                · exact .inl (.inr (.inr (.inr (.inr y))))
                · exact absurd hi (Nat.not_lt_of_le y)
          · rw [← hcap]
            exact Nat.add_lt_add_left (Nat.sub_lt_sub_right hG.le.2.1 hk4) _
        have FI := Lib.hid fin
        clear fin hG hb ho hkp hTI2 hrow2 hC2 hT2 hno HG R H2
        go_wp2_with fail
        refine hpr.mono ?_
        rintro e w3 hp
        have he := hp.1
        subst he
        have F := Lib.hid (FI.out w3 hp)
        clear hp hpr FI
        go_wp2_with fail
        go_ret2
        exact F.out
end Go.Proofs.Ytimdojkhdneecaa.Tree

namespace Go.Proofs.Ytimdojkhdneecaa.Tree
open Go.RowKit Go.Proofs.Ytimdojkhdneecaa.Hp Go.Proofs.Ytimdojkhdneecaa.Ram Go.Proofs.Ytimdojkhdneecaa.Word Go.Proofs.Ytimdojkhdneecaa.WordP Go.Proofs.Ytimdojkhdneecaa.Pool
set_option linter.unusedVariables false
set_option linter.unusedSimpArgs false
def updE (E : Nat → Int) (pg : Nat) (v : Int) : Nat → Int := fun q => if q = pg then v else E q
/-- what Set says: its error, and the pages' numbers behind it -/
def SetSays (S : PS) (s s' : TS) (pg k n : Int) (wr : Bool) (E : Int) : Prop :=
  (¬ (0 ≤ pg ∧ pg < 4096) ∧ E = 1 ∧ s'.E = s.E) ∨
  ((0 ≤ pg ∧ pg < 4096) ∧ ((¬ EntOk k n wr ∧ E = 8 ∧ s'.E = s.E) ∨ (EntOk k n wr ∧ ((E = 0 ∧ s'.E = updE s.E pg.toNat (entN k n wr)) ∨
    (E = 4 ∧ s'.E = s.E ∧ entN k n wr ≠ 0 ∧ ∀ pages : List Nat, (∀ q, q ∈ pages ↔ (q = pg.toNat ∨ s.E q ≠ 0)) → capN S s.own < tablesN pages)))))
def SetTo (w0 w : World) (pm bl p b bi t : Nat) (S : PS) (B : Nat → Nat → Int) (root : Nat) (ov : Value) (s : TS) (pg k n : Int) (wr : Bool) (e : Ending) (w' : World) : Prop :=
  ∃ (E : Int) (S' : PS) (B' : Nat → Nat → Int) (s' : TS) (ov' : Value), e = .returned (.int .i64 E) ∧ TI w0 w' pm bl p b bi t S' B' root ov' s' 0 0 ∧ Mv S B s.own S' B' s'.own ∧ Chg (TX p bi bl t ov) w w' ∧
    (∀ g, ov'.ownBlock = some g → ov.ownBlock = some g ∨ w.heap.size ≤ g) ∧ SetSays S s s' pg k n wr E
/-- a page's tables are there -/
structure TailSt (w0 w : World) (pm bl p b bi t : Nat) (S : PS) (B : Nat → Nat → Int) (root : Nat) (ov : Value) (s : TS) (pg bs : Nat) (lv : Value) (path : List Nat) (S' : PS) (B' : Nat → Nat → Int) (s' : TS) (ek ep : Nat) (ov' : Value) (w' : World) : Prop where
  ti : TI w0 w' pm bl p b bi t S' B' root ov' s' ek ep
  he : (ek = 3 ∧ ep = pg / 8) ∨ ek = 0
  mv : Mv S B s.own S' B' s'.own
  en : s'.E = s.E
  ch : Chg (TX p bi bl t ov) w w'
  ob : ∀ g, ov'.ownBlock = some g → ov.ownBlock = some g ∨ w.heap.size ≤ g
  len : path.length = 4
  way : WayP s' pg path
  row : w'.ownsRow bs 3 1 lv 4 (ownV path)
  off : ∀ g, lv.ownBlock = some g → ¬ TX p bi bl t ov' g
section
variable {w0 w w3 w4 w5 : World} {pm bl p b bi t : Nat} {S : PS} {B : Nat → Nat → Int} {root : Nat} {ov : Value} {s : TS} {pg bs : Nat} {lv : Value} {path : List Nat} {S' : PS} {B' : Nat → Nat → Int} {s' : TS} {ek ep : Nat} {ov' : Value}
theorem dig3 (pg : Nat) : dig pg 3 = pg % 8 := by unfold dig; rw [Nat.sub_self, Nat.pow_zero, Nat.div_one]
theorem TailSt.keep (h : TailSt w0 w pm bl p b bi t S B root ov s pg bs lv path S' B' s' ek ep ov' w3) (hc : Chg NoB w3 w4) : TailSt w0 w pm bl p b bi t S B root ov s pg bs lv path S' B' s' ek ep ov' w4 :=
  ⟨h.ti.keep hc, h.he, h.mv, h.en, h.ch.trans hc (fun _ _ x => x.elim), h.ob, h.len, h.way, Own.own_chg h.row hc (fun _ _ x => x), h.off⟩
/-- the page's number is put -/
theorem TailSt.put {f : Nat} {v : Int} (h : TailSt w0 w pm bl p b bi t S B root ov s pg bs lv path S' B' s' ek ep ov' w4) (hf : s'.T 3 (pre pg 3) = some f) (h0 : 0 ≤ v) (h1 : v < 18446744073709551616)
    (hr : RRam w5 pm bl 1024 (Ram.upd B' f (dig pg 3 * 8) (digs v 8)) (fun _ => false)) (hc : Chg (· = bl) w4 w5) :
    TI w0 w5 pm bl p b bi t S' (Ram.upd B' f (dig pg 3 * 8) (digs v 8)) root ov' (s'.put pg f v) 3 (pre pg 3) ∧ Mv S B s.own S' (Ram.upd B' f (dig pg 3 * 8) (digs v 8)) (s'.put pg f v).own ∧ Chg (TX p bi bl t ov) w w5 ∧ w5.ownsRow bs 3 1 lv 4 (ownV path) ∧ (∀ j, j ≤ 3 → ∃ f', path[j]? = some f' ∧ (s'.put pg f v).T j (pre pg j) = some f') := by
  have h4 := h.ti.tl.ram hr (byte_put h.ti.tl.by_ _ _ _ (digs_bytes _ 8)) hc
  rw [dig3] at h4 ⊢
  rw [pre3] at hf ⊢
  obtain ⟨m1, m2⟩ := h.ti.putted h.he hf h0 h1 h4
  exact ⟨m1, h.mv.trans m2, h.ch.trans hc (fun i _ x => .inr (.inr (.inl x))), Own.own_chg h.row hc (fun g hg x => h.off g hg (.inr (.inr (.inl x)))), fun j hj => h.way j (by rw [h.len]; exact Nat.lt_succ_of_le hj)⟩
theorem SetTo.ok {v : Int} {k n : Int} {wr : Bool} {w6 w7 : World} {B6 : Nat → Nat → Int} {s6 : TS} (hpg : pg < 4096) (hk : EntOk k n wr) (hv : v = entN k n wr) (h5 : TI w0 w6 pm bl p b bi t S' B6 root ov' s6 3 (pre pg 3)) (hmv : Mv S B s.own S' B6 s6.own) (hE : s6.E = updE s.E pg v) (hch : Chg (TX p bi bl t ov) w w6)
    (ob : ∀ g, ov'.ownBlock = some g → ov.ownBlock = some g ∨ w.heap.size ≤ g) (hp : PruneTo w0 w6 pm bl p b bi t S' B6 root ov' s6 (.returned (.tuple #[])) w7) : SetTo w0 w pm bl p b bi t S B root ov s (pg : Int) k n wr (.returned (.int .i64 0)) w7 := by
  obtain ⟨_, S7, B7, s7, ov7, ⟨a1, a2, a3, a4⟩, a5⟩ := hp
  refine ⟨0, S7, B7, s7, ov7, rfl, a1, hmv.trans a2, hch.trans a4 (fun i hi x => ?_), fun g hg => ob g (by rw [← a5]; exact hg), .inr ⟨⟨by omega, by omega⟩, .inr ⟨hk, .inl ⟨rfl, ?_⟩⟩⟩⟩
  · rcases x with x | x | x | x | x
    · exact .inl x
    · exact .inr (.inl x)
    · exact .inr (.inr (.inl x))
    · exact .inr (.inr (.inr (.inl x)))
    · rcases ob i x with y | y
      · exact .inr (.inr (.inr (.inr y)))
      · exact absurd hi (Nat.not_lt_of_le y)
  · rw [a3, hE, hv, Int.toNat_natCast]
end
theorem ent_pos {k n : Int} {wr : Bool} (h : EntOk k n wr) : 0 ≤ entN k n wr ∧ entN k n wr < 18446744073709551616 := by
  have := ent_lt h
  unfold entN
  split <;> omega
set_option maxHeartbeats 4000000 in
theorem set_out {w0 w : World} {pm bl p b bi t : Nat} {S : PS} {B : Nat → Nat → Int} {root : Nat} {ov : Value} {s : TS} (pg k n : Int) (wr : Bool) (hpg : ¬ (0 ≤ pg ∧ pg < 4096)) (h : TI w0 w pm bl p b bi t S B root ov s 0 0) :
    Calls Try.prog 10 #[.pointer (some ⟨t, 0, none⟩), .int .i64 pg, .agg #[.int .i64 k, .int .i64 n, .bool wr]] w (SetTo w0 w pm bl p b bi t S B root ov s pg k n wr) := by
  have cA : Chg NoB w (w.alloc (.cells #[.int .i64 k, .int .i64 n, .bool wr] 33)) := (Chg.refl NoB w).alloc _
  have h1 := h.keep cA
  obtain ⟨A, c, hov⟩ := own_form h1.tl.row
  have hm := may_any (n := s.own.length) pg (show TBlk _ t pm p root (.slice A s.own.length c) by rw [← hov]; exact h1.tl.st)
  rw [show mayE pg s.own.length = 1 from if_pos (by omega)] at hm
  have F := Lib.hid (show SetTo w0 w pm bl p b bi t S B root ov s pg k n wr (.returned (.int .i64 1)) _ from ⟨1, S, B, s, ov, rfl, h1, Mv.refl _ _ _, cA.mono (fun _ _ x => x.elim), fun g hg => .inl hg, .inl ⟨hpg, rfl, rfl⟩⟩)
  clear h h1 cA hov hpg
  go_enter Try.func10, Try.ntmps10
  go_wp2_with fail
  refine hm.mono ?_
  rintro e w1 ⟨rfl, rfl⟩
  clear hm
  go_wp2_with fail
  go_ret
  exact F.out
set_option maxHeartbeats 4000000 in
theorem set_form {w0 w : World} {pm bl p b bi t : Nat} {S : PS} {B : Nat → Nat → Int} {root : Nat} {ov : Value} {s : TS} (pg k n : Int) (wr : Bool) (hpg : 0 ≤ pg ∧ pg < 4096) (hk : ¬ EntOk k n wr) (h : TI w0 w pm bl p b bi t S B root ov s 0 0) :
    Calls Try.prog 10 #[.pointer (some ⟨t, 0, none⟩), .int .i64 pg, .agg #[.int .i64 k, .int .i64 n, .bool wr]] w (SetTo w0 w pm bl p b bi t S B root ov s pg k n wr) := by
  have cA : Chg NoB w (w.alloc (.cells #[.int .i64 k, .int .i64 n, .bool wr] 33)) := (Chg.refl NoB w).alloc _
  have bA : Blk (w.alloc (.cells #[.int .i64 k, .int .i64 n, .bool wr] 33)) w.heap.size #[.int .i64 k, .int .i64 n, .bool wr] 33 := bnew w _
  have h1 := h.keep cA
  obtain ⟨A, c, hov⟩ := own_form h1.tl.row
  have hne : s.own.length ≠ 0 := fun e => by
    have hm := (h.ok.mem root).mpr ⟨0, 0, h.rt⟩
    rw [List.length_eq_zero_iff] at e; rw [e] at hm; cases hm
  have hm := may_any (n := s.own.length) pg (show TBlk _ t pm p root (.slice A s.own.length c) by rw [← hov]; exact h1.tl.st)
  rw [show mayE pg s.own.length = 0 by unfold mayE; rw [if_neg (by omega), if_neg hne]] at hm
  have hen := encode_any k n wr (w.alloc (.cells #[.int .i64 k, .int .i64 n, .bool wr] 33))
  have y0 : (w.alloc (.cells #[.int .i64 k, .int .i64 n, .bool wr] 33)).cell? ⟨w.heap.size, 0, none⟩ = some (.int .i64 k) := by rw [bcell bA]; rfl
  have y1 : (w.alloc (.cells #[.int .i64 k, .int .i64 n, .bool wr] 33)).cell? ⟨w.heap.size, 1, none⟩ = some (.int .i64 n) := by rw [bcell bA]; rfl
  have y2 : (w.alloc (.cells #[.int .i64 k, .int .i64 n, .bool wr] 33)).cell? ⟨w.heap.size, 2, none⟩ = some (.bool wr) := by rw [bcell bA]; rfl
  have fin : ∀ w2, Chg NoB (w.alloc (.cells #[.int .i64 k, .int .i64 n, .bool wr] 33)) w2 → SetTo w0 w pm bl p b bi t S B root ov s pg k n wr (.returned (.int .i64 8)) w2 := fun w2 hc =>
    ⟨8, S, B, s, ov, rfl, h1.keep hc, Mv.refl _ _ _, (cA.mono (fun _ _ x => x.elim)).trans hc (fun _ _ x => x.elim), fun g hg => .inl hg, .inr ⟨hpg, .inl ⟨hk, rfl, rfl⟩⟩⟩
  have FI := Lib.hid fin
  have HK := Lib.hid hk
  clear fin h h1 cA hov hpg bA hk hne
  go_enter Try.func10, Try.ntmps10
  go_wp2_with fail
  refine hm.mono ?_
  rintro e w1 ⟨rfl, rfl⟩
  clear hm
  go_wp2_with fail
  refine hen.mono ?_
  rintro e w2 ⟨hC, ⟨g, _⟩ | ⟨_, rfl⟩⟩
  · exact absurd g HK.out
  have F := Lib.hid (FI.out w2 hC)
  clear hen hC FI HK y0 y1 y2
  go_wp2_with fail
  go_ret
  exact F.out
end Go.Proofs.Ytimdojkhdneecaa.Tree

namespace Go.Proofs.Ytimdojkhdneecaa.Tree
open Go.RowKit Go.Proofs.Ytimdojkhdneecaa.Hp Go.Proofs.Ytimdojkhdneecaa.Ram Go.Proofs.Ytimdojkhdneecaa.Word Go.Proofs.Ytimdojkhdneecaa.WordP Go.Proofs.Ytimdojkhdneecaa.Pool
set_option linter.unusedVariables false
set_option linter.unusedSimpArgs false
theorem way_zero {s : TS} {pg : Nat} {l : List Nat} (h : TOk s 0 0) (hw : Way s pg l) (hl : l.length < 4) : s.E pg = 0 := by
  have key : ∀ d k, k + d = 3 → s.T k (pre pg k) = none → s.T 3 (pre pg 3) = none := fun d => by
    induction d with
    | zero => intro k hk hn; obtain rfl : k = 3 := hk; exact hn
    | succ d ih => intro k hk hn; exact ih (k + 1) (by omega) (none_below h (by omega) hn)
  have h3 := key (3 - l.length) l.length (by have := hw.len; omega) (hw.no hl)
  rw [pre3] at h3
  have := h.no _ h3 (pg % 8) (by omega)
  rwa [Nat.div_add_mod] at this
theorem dig_index (pg : Nat) (W : World) : (Instr.index 67 (.agg #[.int .i64 (dig pg 0 : Nat), .int .i64 (dig pg 1 : Nat), .int .i64 (dig pg 2 : Nat), .int .i64 (dig pg 3 : Nat)]) (.int .i64 3)).run Try.prog W = .ok (.int .i64 (dig pg 3 : Nat)) W := by
  have hs : (Try.prog.info? 3).map (·.size) = some 1 := by kernel_rfl
  obtain ⟨i, hi, hi2⟩ := Option.map_eq_some_iff.1 hs
  have hp : Try.prog.plainKey 3 = true := by kernel_rfl
  have hpt := run_part_plain W (off := 3) hp (show (#[.int .i64 (dig pg 0 : Nat), .int .i64 (dig pg 1 : Nat), .int .i64 (dig pg 2 : Nat), .int .i64 (dig pg 3 : Nat)] : Array Value)[3]? = some (.int .i64 (dig pg 3 : Nat)) from rfl)
  simp [Instr.index, run_underlying Try.underlying67, asIntOf, sizeOf, typeInfo, hi, hi2, hpt]
set_option maxRecDepth 100000 in
set_option maxHeartbeats 4000000 in
theorem set_main {w0 w : World} {pm bl p b bi t : Nat} {S : PS} {B : Nat → Nat → Int} {root : Nat} {ov : Value} {s : TS} (pg : Nat) (k n : Int) (wr : Bool) (hpg : pg < 4096) (hk : EntOk k n wr) (h : TI w0 w pm bl p b bi t S B root ov s 0 0) (hz : ZI S s.own) :
    Calls Try.prog 10 #[.pointer (some ⟨t, 0, none⟩), .int .i64 (pg : Int), .agg #[.int .i64 k, .int .i64 n, .bool wr]] w (SetTo w0 w pm bl p b bi t S B root ov s (pg : Int) k n wr) := by
  have cA : Chg NoB w (w.alloc (.cells #[.int .i64 k, .int .i64 n, .bool wr] 33)) := (Chg.refl NoB w).alloc _
  have bA : Blk (w.alloc (.cells #[.int .i64 k, .int .i64 n, .bool wr] 33)) w.heap.size #[.int .i64 k, .int .i64 n, .bool wr] 33 := bnew w _
  have h1 := h.keep cA
  obtain ⟨A, c, hov⟩ := own_form h1.tl.row
  have hne : s.own.length ≠ 0 := fun e => by
    have hm := (h.ok.mem root).mpr ⟨0, 0, h.rt⟩
    rw [List.length_eq_zero_iff] at e; rw [e] at hm; cases hm
  have hm := may_any (n := s.own.length) (pg : Int) (show TBlk _ t pm p root (.slice A s.own.length c) by rw [← hov]; exact h1.tl.st)
  rw [show mayE (pg : Int) s.own.length = 0 by unfold mayE; rw [if_neg (by omega), if_neg hne]] at hm
  have hen := encode_any k n wr (w.alloc (.cells #[.int .i64 k, .int .i64 n, .bool wr] 33))
  have y0 : (w.alloc (.cells #[.int .i64 k, .int .i64 n, .bool wr] 33)).cell? ⟨w.heap.size, 0, none⟩ = some (.int .i64 k) := by rw [bcell bA]; rfl
  have y1 : (w.alloc (.cells #[.int .i64 k, .int .i64 n, .bool wr] 33)).cell? ⟨w.heap.size, 1, none⟩ = some (.int .i64 n) := by rw [bcell bA]; rfl
  have y2 : (w.alloc (.cells #[.int .i64 k, .int .i64 n, .bool wr] 33)).cell? ⟨w.heap.size, 2, none⟩ = some (.bool wr) := by rw [bcell bA]; rfl
  obtain ⟨hv0, hv1⟩ := ent_pos hk
  obtain ⟨v, hv⟩ : ∃ v, v = entN k n wr := ⟨_, rfl⟩
  rw [← hv] at hv0 hv1
  have HE := Lib.hid (And.intro hk hv)
  have H := Lib.hid (And.intro h (And.intro cA hz))
  have l0 := h.tl.pl.ch.size
  clear h h1 cA hov bA hne hk hv hz
  go_enter Try.func10, Try.ntmps10
  go_wp2_with fail
  refine hm.mono ?_
  rintro e w1 ⟨rfl, rfl⟩
  clear hm
  go_wp2_with fail
  refine hen.mono ?_
  rintro e w2 ⟨hC, ⟨_, rfl⟩ | ⟨g, _⟩⟩
  case inr => exact absurd HE.out.1 g
  have c2 : Chg NoB w w2 := H.out.2.1.trans hC (fun _ _ x => x)
  have h2 := H.out.1.keep c2
  have hwy := way_any (D := fun _ => false) pg hpg h2.tl.st h2.tl.rm h2.tl.by_ h2.ok h2.rt h2.fit (fun f hf => ⟨(h2.use f hf).1, rfl⟩)
  have l2 := c2.size
  have H2 := Lib.hid (And.intro c2 h2)
  rw [← HE.out.2]
  clear hen hC y0 y1 y2 c2 h2
  go_wp2_with fail
  refine hwy.mono ?_
  rintro e w3 ⟨path, lv, rfl, hrow, hway, hC3⟩
  obtain ⟨g, c, rfl, hg, hcn⟩ := own_pos hrow (by have := hway.len; omega)
  have h3 := H2.out.2.keep hC3
  have c3 : Chg NoB w w3 := H2.out.1.trans hC3 (fun _ _ x => x)
  have hoff : ∀ i, TX p bi bl t ov i → i < w.heap.size := H.out.1.lts
  have hlo : ∀ g', (Value.slice (some ⟨g, 0, none⟩) path.length c).ownBlock = some g' → w2.heap.size ≤ g' := fun g' x => (Own.own_ge hrow g' x).1
  have hof : ∀ g', (Value.slice (some ⟨g, 0, none⟩) path.length c).ownBlock = some g' → ¬ TX p bi bl t ov g' := fun g' x y => by have := hlo g' x; have := hoff g' y; omega
  have e4 : path.length = 4 ∨ path.length < 4 := Nat.eq_or_lt_of_le hway.len.2
  have hlen := hway.len
  rcases e4 with e4 | e4
  · have hTail : TailSt w0 w pm bl p b bi t S B root ov s pg w2.heap.size (.slice (some ⟨g, 0, none⟩) path.length c) path S B s 0 0 ov w3 :=
      ⟨h3, .inr rfl, Mv.refl _ _ _, rfl, c3.mono (fun _ _ x => x.elim), fun g hg => .inl hg, e4, hway.at_, by rw [← e4]; exact hrow, hof⟩
    rw [e4] at hTail ⊢
    clear hwy hrow hway hC3 hlo hof hoff c3 h3 H2 H hlen hcn e4
    have hTl := Lib.hid hTail
    clear hTail
    obtain ⟨f3, hp3, hT3⟩ := hTl.out.way 3 (by rw [hTl.out.len]; decide)
    obtain ⟨hf3, _⟩ := hTl.out.ti.at_ hT3
    have hdg := digits_any pg hpg w3
    have HT3 := Lib.hid (And.intro hp3 hT3)
    clear hp3 hT3
    go_wp2_with fail
    refine hdg.mono ?_
    rintro e w5 ⟨rfl, hC5⟩
    have z5 : w5.cell? ⟨g, 3, none⟩ = some (.int .i64 (f3 : Int)) := by
      rw [(hTl.out.keep hC5).row.cellAt 3 (by decide)]
      exact ownV_at HT3.out.1
    have hgt := tget_any (D := fun _ => false) f3 (dig pg 3) (hTl.out.keep hC5).ti.tl.st (hTl.out.keep hC5).ti.tl.rm (hTl.out.keep hC5).ti.tl.by_ hf3 (dig_lt _ _) rfl
    have HC5 := Lib.hid hC5
    clear hdg hC5
    have hix := dig_index pg w5
    go_wp2_with fail
    refine hgt.mono ?_
    rintro e w6 ⟨rfl, hC6⟩
    have t6 := (hTl.out.keep HC5.out).keep hC6
    have z6 := hC6.cell z5 (fun x => x)
    have hpt := tput_any (D := fun _ => false) f3 (dig pg 3) v t6.ti.tl.st t6.ti.tl.rm hf3 (dig_lt _ _) rfl hv0 hv1
    have HT6 := Lib.hid t6
    clear hgt hC6 z5 t6
    go_wp2_with fail
    refine hpt.mono ?_
    rintro e w7 ⟨rfl, hR7, hC7⟩
    obtain ⟨m1, m2, m3, m4, m5⟩ := HT6.out.put HT3.out.2 hv0 hv1 hR7 hC7
    have hpr := prune_any (k0 := 3) (l := path) hpg m1 HT6.out.len (by decide) m5 m4 HT6.out.off
    have M := Lib.hid (And.intro m1 (And.intro m2 m3))
    clear hpt hR7 hC7 z6 m1 m2 m3 m4 m5
    go_wp2_with fail
    refine hpr.mono ?_
    rintro e w8 hp
    have he := hp.1
    subst he
    have F := Lib.hid (SetTo.ok (s := s) hpg HE.out.1 HE.out.2 M.out.1 M.out.2.1 (by
      show updE _ pg v = _
      rw [hTl.out.en]) M.out.2.2 hTl.out.ob hp)
    clear hp hpr M HT6 HC5 HT3 hTl
    go_wp2_with fail
    go_ret
    exact F.out
  · have d4 : decide ((path.length : Int) < 4) = true := decide_eq_true (by omega)
    have z : 0 < path.length := hlen.1
    rcases Classical.em (v = 0) with hv | hv
    · have dv : (v == 0) = true := by rw [beq_iff_eq]; exact hv
      have F := Lib.hid (show SetTo w0 w pm bl p b bi t S B root ov s (pg : Int) k n wr (.returned (.int .i64 0)) w3 from by
        refine ⟨0, S, B, s, ov, rfl, h3, Mv.refl _ _ _, c3.mono (fun _ _ x => x.elim), fun g hg => .inl hg, .inr ⟨⟨by omega, by omega⟩, .inr ⟨HE.out.1, .inl ⟨rfl, ?_⟩⟩⟩⟩
        funext q
        unfold updE
        split
        · rename_i e
          rw [← HE.out.2, hv, e, Int.toNat_natCast]
          exact way_zero h3.ok hway e4
        · rfl)
      clear hwy hrow hway hC3 hlo hof hoff c3 h3 H2 H hlen hcn e4 hv
      go_wp2_with fail
      go_ret
      exact F.out
    · have dv : (v == 0) = false := by rw [beq_eq_false_iff_ne]; exact hv
      have hgr := grow_any hpg h3 hway (bs := w2.heap.size) (Nat.le_trans l0 l2) hC3.size hrow hof H.out.2.2
      have G := Lib.hid (And.intro c3 (And.intro hoff (And.intro hlo (And.intro hway hv))))
      have L3 := Lib.hid (And.intro hlen e4)
      clear hwy hrow hway hC3 hlo hof hoff c3 h3 H2 hlen hcn e4 hv
      go_wp2_with fail
      refine hgr.mono ?_
      rintro e w4 (⟨lv, path', S4, B4, s4, ov4, rfl, hG⟩ | ⟨S4, B4, s4, ov4, rfl, hT4, hM4, hE4, hC4, hob4, hcap⟩)
      · obtain ⟨g4, c4, rfl, hg4, hcn4⟩ := own_pos hG.row (by decide)
        have sz := G.out.1.size
        have hTail : TailSt w0 w pm bl p b bi t S B root ov s pg w2.heap.size (.slice (some ⟨g4, 0, none⟩) 4 c4) path' S4 B4 s4 3 (pg / 8) ov4 w4 := by
          refine ⟨by have := hG.ti; rw [show 4 - 1 = 3 from rfl, pre3] at this; exact this, .inl ⟨rfl, rfl⟩, hG.mv, hG.en, (G.out.1.mono (fun _ _ x => x.elim)).trans hG.ch (fun i hi x => ?_), fun g hg => ?_, hG.len, hG.way, hG.row, fun g hg => (hG.off g hg).1⟩
          · rcases x with x | x
            · exact x
            · exact absurd hi (Nat.not_lt_of_le (Nat.le_trans l2 (G.out.2.2.1 i x)))
          · rcases hG.ob g hg with y | y
            · exact .inl y
            · exact .inr (Nat.le_trans sz y)
        clear hG hgr G L3 H sz d4 dv hcn4 z
        have hTl := Lib.hid hTail
        clear hTail
        obtain ⟨f3, hp3, hT3⟩ := hTl.out.way 3 (by rw [hTl.out.len]; decide)
        obtain ⟨hf3, _⟩ := hTl.out.ti.at_ hT3
        have hdg := digits_any pg hpg w4
        have HT3 := Lib.hid (And.intro hp3 hT3)
        clear hp3 hT3
        go_wp2_with fail
        refine hdg.mono ?_
        rintro e w5 ⟨rfl, hC5⟩
        have z5 : w5.cell? ⟨g4, 3, none⟩ = some (.int .i64 (f3 : Int)) := by
          rw [(hTl.out.keep hC5).row.cellAt 3 (by decide)]
          exact ownV_at HT3.out.1
        have hgt := tget_any (D := fun _ => false) f3 (dig pg 3) (hTl.out.keep hC5).ti.tl.st (hTl.out.keep hC5).ti.tl.rm (hTl.out.keep hC5).ti.tl.by_ hf3 (dig_lt _ _) rfl
        have HC5 := Lib.hid hC5
        clear hdg hC5
        have hix := dig_index pg w5
        go_wp2_with fail
        refine hgt.mono ?_
        rintro e w6 ⟨rfl, hC6⟩
        have t6 := (hTl.out.keep HC5.out).keep hC6
        have z6 := hC6.cell z5 (fun x => x)
        have hpt := tput_any (D := fun _ => false) f3 (dig pg 3) v t6.ti.tl.st t6.ti.tl.rm hf3 (dig_lt _ _) rfl hv0 hv1
        have HT6 := Lib.hid t6
        clear hgt hC6 z5 t6
        go_wp2_with fail
        refine hpt.mono ?_
        rintro e w7 ⟨rfl, hR7, hC7⟩
        obtain ⟨m1, m2, m3, m4, m5⟩ := HT6.out.put HT3.out.2 hv0 hv1 hR7 hC7
        have hpr := prune_any (k0 := 3) (l := path') hpg m1 HT6.out.len (by decide) m5 m4 HT6.out.off
        have M := Lib.hid (And.intro m1 (And.intro m2 m3))
        clear hpt hR7 hC7 z6 m1 m2 m3 m4 m5
        go_wp2_with fail
        refine hpr.mono ?_
        rintro e w8 hp
        have he := hp.1
        subst he
        have F := Lib.hid (SetTo.ok (s := s) hpg HE.out.1 HE.out.2 M.out.1 M.out.2.1 (by
          show updE _ pg v = _
          rw [hTl.out.en]) M.out.2.2 hTl.out.ob hp)
        clear hp hpr M HT6 HC5 HT3 hTl
        go_wp2_with fail
        go_ret
        exact F.out
      · have F := Lib.hid (show SetTo w0 w pm bl p b bi t S B root ov s (pg : Int) k n wr (.returned (.int .i64 4)) w4 from by
          refine ⟨4, S4, B4, s4, ov4, rfl, hT4, hM4, (G.out.1.mono (fun _ _ x => x.elim)).trans hC4 (fun i hi x => ?_), fun g hg => ?_, .inr ⟨⟨by omega, by omega⟩, .inr ⟨HE.out.1, .inr ⟨rfl, hE4, by rw [← HE.out.2]; exact G.out.2.2.2.2, fun pages hp => ?_⟩⟩⟩⟩
          · rcases x with x | x
            · exact x
            · exact absurd hi (Nat.not_lt_of_le (Nat.le_trans l2 (G.out.2.2.1 i x)))
          · rcases hob4 g hg with y | y
            · exact .inl y
            · exact .inr (Nat.le_trans G.out.1.size y)
          · rw [Int.toNat_natCast] at hp
            obtain ⟨y1, y2⟩ := L3.out
            have hw := G.out.2.2.2.1
            obtain ⟨f, _, hf⟩ := hw.at_ (path.length - 1) (by omega)
            rw [need_count H.out.1.ok hpg (L := path.length) ⟨y1.1, by omega⟩ ⟨f, hf⟩ (hw.no y2) hp]
            exact hcap)
        clear hT4 hM4 hE4 hC4 hob4 hcap hgr G L3 H d4 dv z
        go_wp2_with fail
        go_ret
        exact F.out
end Go.Proofs.Ytimdojkhdneecaa.Tree

namespace Go.Proofs.Ytimdojkhdneecaa.Tree
open Go.RowKit Go.Proofs.Ytimdojkhdneecaa.Hp Go.Proofs.Ytimdojkhdneecaa.Ram Go.Proofs.Ytimdojkhdneecaa.Word Go.Proofs.Ytimdojkhdneecaa.WordP Go.Proofs.Ytimdojkhdneecaa.Pool
set_option linter.unusedVariables false
set_option linter.unusedSimpArgs false
theorem tset_any {w0 w : World} {pm bl p b bi t : Nat} {S : PS} {B : Nat → Nat → Int} {root : Nat} {ov : Value} {s : TS} (pg k n : Int) (wr : Bool) (h : TI w0 w pm bl p b bi t S B root ov s 0 0) (hz : ZI S s.own) :
    Calls Try.prog 10 #[.pointer (some ⟨t, 0, none⟩), .int .i64 pg, .agg #[.int .i64 k, .int .i64 n, .bool wr]] w (SetTo w0 w pm bl p b bi t S B root ov s pg k n wr) := by
  by_cases hpg : 0 ≤ pg ∧ pg < 4096
  · by_cases hk : EntOk k n wr
    · obtain ⟨q, rfl⟩ := Int.eq_ofNat_of_zero_le hpg.1
      exact set_main q k n wr (by omega) hk h hz
    · exact set_form pg k n wr hpg hk h
  · exact set_out pg k n wr hpg h
def GetTo (w : World) (k n : Int) (wr : Bool) (E : Int) (e : Ending) (w' : World) : Prop := e = .returned (.tuple #[.agg #[.int .i64 k, .int .i64 n, .bool wr], .int .i64 E]) ∧ Chg NoB w w'
theorem ent_store {w w1 : World} {g : Nat} {x y z : Value} (hb : Blk w1 g #[x, y, z] 33) (hc : Chg NoB w w1) (hg : w.heap.size ≤ g) (k n : Int) (wr : Bool) :
    (w1.cell? ⟨g, 0, none⟩ = some x ∧ w1.cell? ⟨g, 1, none⟩ = some y ∧ w1.cell? ⟨g, 2, none⟩ = some z ∧ w1.frozen? ⟨g, 0, none⟩ = false ∧ w1.frozen? ⟨g, 1, none⟩ = false ∧ w1.frozen? ⟨g, 2, none⟩ = false) ∧
    (Blk (((w1.setCell ⟨g, 0, none⟩ (.int .i64 k)).setCell ⟨g, 1, none⟩ (.int .i64 n)).setCell ⟨g, 2, none⟩ (.bool wr)) g #[.int .i64 k, .int .i64 n, .bool wr] 33 ∧
    Chg NoB w (((w1.setCell ⟨g, 0, none⟩ (.int .i64 k)).setCell ⟨g, 1, none⟩ (.int .i64 n)).setCell ⟨g, 2, none⟩ (.bool wr))) :=
  ⟨⟨by rw [bcell hb]; rfl, by rw [bcell hb]; rfl, by rw [bcell hb]; rfl, bfroz hb 0, bfroz hb 1, bfroz hb 2⟩, bset (bset (bset hb 0 _) 1 _) 2 _, ((hc.set (p := ⟨g, 0, none⟩) (.inr hg) _).set (p := ⟨g, 1, none⟩) (.inr hg) _).set (p := ⟨g, 2, none⟩) (.inr hg) _⟩
set_option maxHeartbeats 4000000 in
theorem get_may {w : World} {tv : Value} (pg E : Int) (hE : E ≠ 0) (hm : Calls Try.prog 26 #[tv, .int .i64 pg] (w.alloc (.cells #[.int .i64 0, .int .i64 0, .bool false] 33)) fun e w' => e = .returned (.int .i64 E) ∧ w.alloc (.cells #[.int .i64 0, .int .i64 0, .bool false] 33) = w') :
    Calls Try.prog 14 #[tv, .int .i64 pg] w (GetTo w 0 0 false E) := by
  have dE : (E != 0) = true := by rw [bne_iff_ne]; exact hE
  have dE2 : (E == 0) = false := by rw [beq_eq_false_iff_ne]; exact hE
  have cA : Chg NoB w (w.alloc (.cells #[.int .i64 0, .int .i64 0, .bool false] 33)) := (Chg.refl NoB w).alloc _
  obtain ⟨⟨r0, r1, r2, q0, q1, q2⟩, b3, c3⟩ := ent_store (bnew w (.cells #[.int .i64 0, .int .i64 0, .bool false] 33)) cA (Nat.le_refl _) 0 0 false
  have F := Lib.hid (show GetTo w 0 0 false E (.returned (.tuple #[.agg #[.int .i64 0, .int .i64 0, .bool false], .int .i64 E])) _ from ⟨rfl, cA⟩)
  have HB := Lib.hid (show Blk (w.alloc (.cells #[.int .i64 0, .int .i64 0, .bool false] 33)) w.heap.size #[.int .i64 0, .int .i64 0, .bool false] 33 from bnew w _)
  clear b3 c3 cA hE
  go_enter Try.func14, Try.ntmps14
  go_wp2_with fail
  refine hm.mono ?_
  rintro e w1 ⟨rfl, rfl⟩
  clear hm
  go_wp2_with fail
  refine bodyPost_ret (results_ct rfl _ _ w.heap.size 33 _ (0, 0) _ rfl HB.out Try.underlying33 rfl (by kernel_rfl)) rfl ?_
  exact F.out
set_option maxRecDepth 100000 in
set_option maxHeartbeats 4000000 in
theorem tget_entry {w0 w : World} {pm bl p b bi t : Nat} {S : PS} {B : Nat → Nat → Int} {root : Nat} {ov : Value} {s : TS} (pg : Nat) (hpg : pg < 4096) (k n : Int) (wr : Bool) (hk : EntOk k n wr) (h : TI w0 w pm bl p b bi t S B root ov s 0 0) (hE : s.E pg = entN k n wr) :
    Calls Try.prog 14 #[.pointer (some ⟨t, 0, none⟩), .int .i64 (pg : Int)] w (GetTo w k n wr 0) := by
  have cA : Chg NoB w (w.alloc (.cells #[.int .i64 0, .int .i64 0, .bool false] 33)) := (Chg.refl NoB w).alloc _
  have bA : Blk (w.alloc (.cells #[.int .i64 0, .int .i64 0, .bool false] 33)) w.heap.size #[.int .i64 0, .int .i64 0, .bool false] 33 := bnew w _
  have h1 := h.keep cA
  obtain ⟨A, c, hov⟩ := own_form h1.tl.row
  have hne : s.own.length ≠ 0 := fun e => by
    have hm := (h.ok.mem root).mpr ⟨0, 0, h.rt⟩
    rw [List.length_eq_zero_iff] at e; rw [e] at hm; cases hm
  have hm := may_any (n := s.own.length) (pg : Int) (show TBlk _ t pm p root (.slice A s.own.length c) by rw [← hov]; exact h1.tl.st)
  rw [show mayE (pg : Int) s.own.length = 0 by unfold mayE; rw [if_neg (by omega), if_neg hne]] at hm
  have hwy := way_any (D := fun _ => false) pg hpg h1.tl.st h1.tl.rm h1.tl.by_ h1.ok h1.rt h1.fit (fun f hf => ⟨(h1.use f hf).1, rfl⟩)
  have H := Lib.hid (And.intro h1 (And.intro cA (And.intro bA (And.intro hE hk))))
  clear h h1 cA hov bA hne hE hk
  go_enter Try.func14, Try.ntmps14
  go_wp2_with fail
  refine hm.mono ?_
  rintro e w1 ⟨rfl, rfl⟩
  clear hm
  go_wp2_with fail
  refine hwy.mono ?_
  rintro e w3 ⟨path, lv, rfl, hrow, hway, hC3⟩
  obtain ⟨g, c, rfl, hg, hcn⟩ := own_pos hrow (by have := hway.len; omega)
  have h3 := H.out.1.keep hC3
  have c3 : Chg NoB w w3 := H.out.2.1.trans hC3 (fun _ _ x => x)
  have b3 := hC3.blk (show Blk _ _ _ _ from H.out.2.2.1) (fun x => x)
  have e4 : path.length = 4 ∨ path.length < 4 := Nat.eq_or_lt_of_le hway.len.2
  rcases e4 with e4 | e4
  · rw [e4]
    obtain ⟨f3, hp3, hT3⟩ := hway.at_ 3 (by rw [e4]; decide)
    obtain ⟨hf3, _⟩ := h3.at_ hT3
    have d4 : decide (((4 : Nat) : Int) < 4) = false := by decide
    have hdg := digits_any pg hpg w3.drew
    have x0 : w3.drew.cell? ⟨g, 3, none⟩ = some (.int .i64 (f3 : Int)) := by
      show w3.cell? _ = _
      rw [hrow.cellAt 3 (by rw [e4]; decide)]
      exact ownV_at hp3
    have hnum : numM B f3 (dig pg 3) = entN k n wr := by
      rw [← h3.fit f3 (dig pg 3) (dig_lt _ _), ← H.out.2.2.2.1, dig3]
      rw [pre3] at hT3
      rw [h3.ok.leaf _ f3 hT3 (pg % 8) (by omega), Nat.div_add_mod]
    have hgt : ∀ w5, Chg NoB w3.drew w5 → Calls Try.prog 31 #[.pointer (some ⟨t, 0, none⟩), .int .i64 (f3 : Int), .int .i64 (dig pg 3 : Int)] w5 (NumPost (entN k n wr) w5) := fun w5 hc => by
      have h5 := (h3.keep ((Chg.refl NoB w3).drew)).keep hc
      have := tget_any (D := fun _ => false) f3 (dig pg 3) h5.tl.st h5.tl.rm h5.tl.by_ hf3 (dig_lt _ _) rfl
      rw [hnum] at this
      exact this
    have hix := dig_index pg
    have HD := Lib.hid hdg
    have HG := Lib.hid hgt
    have c3d : Chg NoB w w3.drew := c3.drew
    have b3d : Blk w3.drew w.heap.size #[.int .i64 0, .int .i64 0, .bool false] 33 := b3
    have HC := Lib.hid (And.intro c3d b3d)
    have HE := Lib.hid (show ∀ W, Calls Try.prog 37 #[.int .u64 (entN k n wr)] W (DecPost k n wr W) from fun W => decode_any k n wr W H.out.2.2.2.2)
    have KE : ∀ W W' : World, Chg NoB W W' → W.cell? ⟨g, 3, none⟩ = some (.int .i64 (f3 : Int)) → W'.cell? ⟨g, 3, none⟩ = some (.int .i64 (f3 : Int)) := fun W W' hc hx => hc.cell hx (fun x => x)
    have KH := Lib.hid KE
    clear hrow hway hC3 h3 c3 b3 hwy H hdg hgt hnum hp3 hT3 c3d b3d KE
    generalize entN k n wr = v at *
    go_wp2_with fail
    go_region_held3 (fun w' => w'.cell? ⟨g, 3, none⟩ = some (.int .i64 (f3 : Int))) (first | go_keep | exact KH.out _ _ hC5 (by assumption) | exact KH.out _ _ hC6 (by assumption))
      (first
        | (go_at_call 30; ((with_reducible refine HD.out.mono ?_); rintro e w5 ⟨rfl, hC5⟩))
        | (go_at_call 31; ((with_reducible refine (HG.out _ hC5).mono ?_); rintro e w6 ⟨rfl, hC6⟩)))
    have hdc := HE.out w6
    have c6 : Chg NoB w w6 := (HC.out.1.trans hC5 (fun _ _ x => x)).trans hC6 (fun _ _ x => x)
    have b6 := hC6.blk (show Blk _ _ _ _ from hC5.blk (show Blk _ _ _ _ from HC.out.2) (fun x => x)) (fun x => x)
    have H6 := Lib.hid (And.intro c6 b6)
    clear hC5 hC6 c6 b6 HE HC HD HG KH x0 hix
    go_wp2_with fail
    refine hdc.mono ?_
    rintro e w7 ⟨rfl, hC7⟩
    obtain ⟨⟨r0, r1, r2, q0, q1, q2⟩, b8, c8⟩ := ent_store (hC7.blk (show Blk _ _ _ _ from H6.out.2) (fun x => x)) (H6.out.1.trans hC7 (fun _ _ x => x)) (Nat.le_refl _) k n wr
    have F := Lib.hid (show GetTo w k n wr 0 (.returned (.tuple #[.agg #[.int .i64 k, .int .i64 n, .bool wr], .int .i64 0])) _ from ⟨rfl, c8⟩)
    have HB := Lib.hid b8
    clear hdc hC7 H6 b8 c8
    go_wp2_with fail
    refine bodyPost_ret (results_ct rfl _ _ w.heap.size 33 _ (0, 0) _ rfl HB.out Try.underlying33 rfl (by kernel_rfl)) rfl ?_
    exact F.out
  · have d4 : decide ((path.length : Int) < 4) = true := decide_eq_true (by omega)
    have hz := way_zero H.out.1.ok hway e4
    rw [H.out.2.2.2.1] at hz
    have hkz : k = 0 ∧ n = 0 ∧ wr = false := by
      obtain ⟨x1, x2, x3, x4, x5⟩ := H.out.2.2.2.2
      unfold entN at hz
      cases wr with
      | true => simp only [if_true] at hz; omega
      | false =>
        rw [if_neg (by decide)] at hz
        exact ⟨by omega, by omega, rfl⟩
    obtain ⟨rfl, rfl, rfl⟩ := hkz
    obtain ⟨⟨r0, r1, r2, q0, q1, q2⟩, b5, c5⟩ := ent_store b3 c3 (Nat.le_refl _) 0 0 false
    have F := Lib.hid (show GetTo w 0 0 false 0 (.returned (.tuple #[.agg #[.int .i64 0, .int .i64 0, .bool false], .int .i64 0])) _ from ⟨rfl, c5⟩)
    have HB := Lib.hid b5
    clear hrow hway hC3 h3 c3 b3 hwy H hz b5 c5 e4
    go_wp2_with fail
    refine bodyPost_ret (results_ct rfl _ _ w.heap.size 33 _ (0, 0) _ rfl HB.out Try.underlying33 rfl (by kernel_rfl)) rfl ?_
    exact F.out
end Go.Proofs.Ytimdojkhdneecaa.Tree
