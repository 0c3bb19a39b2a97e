/- Trees of tables: the plain part: tables by level and prefix; what a table more, one less, and a number put there do. -/
import Derived.Test.YtimdojkhdneecaaHp
namespace Go.Proofs.Ytimdojkhdneecaa.Tree
set_option linter.unusedVariables false
set_option linter.unusedSimpArgs false
/-- tables (by level and prefix), their numbers, the pages' numbers, and all tables in the order of the program -/
structure TS where
  T : Nat → Nat → Option Nat
  M : Nat → Nat → Int
  E : Nat → Int
  own : List Nat
def kidV (o : Option Nat) : Int := match o with | none => 0 | some g => (g : Int) + 1
theorem kidV_none {o : Option Nat} (h : kidV o = 0) : o = none := by
  cases o with
  | none => rfl
  | some g => simp only [kidV] at h; omega
/-- one table alone may have nothing: the one at level k, prefix p -/
structure TOk (s : TS) (ek ep : Nat) : Prop where
  root : ∃ r, s.T 0 0 = some r
  lvl : ∀ k p f, s.T k p = some f → k ≤ 3 ∧ p < 8 ^ k
  kid : ∀ k p f, k < 3 → s.T k p = some f → ∀ n, n < 8 → s.M f n = kidV (s.T (k + 1) (8 * p + n))
  par : ∀ k p g, s.T (k + 1) p = some g → ∃ f, s.T k (p / 8) = some f
  leaf : ∀ p f, s.T 3 p = some f → ∀ n, n < 8 → s.M f n = s.E (8 * p + n)
  no : ∀ p, s.T 3 p = none → ∀ n, n < 8 → s.E (8 * p + n) = 0
  inj : ∀ k p k' p' f, s.T k p = some f → s.T k' p' = some f → k = k' ∧ p = p'
  mem : ∀ f, f ∈ s.own ↔ ∃ k p, s.T k p = some f
  nodup : s.own.Nodup
  full : ∀ k p f, s.T (k + 1) p = some f → (k + 1 = ek ∧ p = ep) ∨ ∃ n, n < 8 ∧ s.M f n ≠ 0
def setT (T : Nat → Nat → Option Nat) (k p : Nat) (o : Option Nat) : Nat → Nat → Option Nat := fun k' p' => if k' = k ∧ p' = p then o else T k' p'
theorem setT_at (T : Nat → Nat → Option Nat) (k p : Nat) (o : Option Nat) : setT T k p o k p = o := if_pos ⟨rfl, rfl⟩
theorem setT_ne {T : Nat → Nat → Option Nat} {k p : Nat} {o : Option Nat} {k' p' : Nat} (h : ¬ (k' = k ∧ p' = p)) : setT T k p o k' p' = T k' p' := if_neg h
def setM (M : Nat → Nat → Int) (f n : Nat) (v : Int) : Nat → Nat → Int := fun f' n' => if f' = f ∧ n' = n then v else M f' n'
theorem setM_at (M : Nat → Nat → Int) (f n : Nat) (v : Int) : setM M f n v f n = v := if_pos ⟨rfl, rfl⟩
theorem setM_ne {M : Nat → Nat → Int} {f n : Nat} {v : Int} {f' n' : Nat} (h : ¬ (f' = f ∧ n' = n)) : setM M f n v f' n' = M f' n' := if_neg h
def zeroM (M : Nat → Nat → Int) (f : Nat) : Nat → Nat → Int := fun f' n' => if f' = f then 0 else M f' n'
theorem zeroM_at (M : Nat → Nat → Int) (f n : Nat) : zeroM M f f n = 0 := if_pos rfl
theorem zeroM_ne {M : Nat → Nat → Int} {f f' n : Nat} (h : f' ≠ f) : zeroM M f f' n = M f' n := if_neg h
/-- a table more, below g -/
def TS.grow (s : TS) (k p f g : Nat) : TS := ⟨setT s.T (k + 1) p (some f), setM (zeroM s.M f) g (p % 8) ((f : Int) + 1), s.E, s.own ++ [f]⟩
theorem tok_grow {s : TS} {ek ep k p f g : Nat} (h : TOk s ek ep) (hk : k < 3) (hp : p < 8 ^ (k + 1)) (hg : s.T k (p / 8) = some g) (hn : s.T (k + 1) p = none) (hf : f ∉ s.own) (he : (ek = k ∧ ep = p / 8) ∨ ek = 0) : TOk (s.grow k p f g) (k + 1) p := by
  have hfT : ∀ k' p' f', s.T k' p' = some f' → f' ≠ f := fun k' p' f' h1 e => hf ((h.mem f).mpr ⟨k', p', e ▸ h1⟩)
  have hgf : g ≠ f := hfT _ _ _ hg
  have hdiv : 8 * (p / 8) + p % 8 = p := Nat.div_add_mod p 8
  -- a table of s, in the new state
  have hM : ∀ k' p' f', s.T k' p' = some f' → ∀ n, ¬ (f' = g ∧ n = p % 8) → (s.grow k p f g).M f' n = s.M f' n := fun k' p' f' h1 n hne => by
    show setM (zeroM s.M f) g (p % 8) ((f : Int) + 1) f' n = _
    rw [setM_ne hne, zeroM_ne (hfT _ _ _ h1)]
  have hMf : ∀ n, (s.grow k p f g).M f n = 0 := fun n => by
    show setM (zeroM s.M f) g (p % 8) ((f : Int) + 1) f n = 0
    rw [setM_ne (fun x => hgf x.1.symm), zeroM_at]
  have hMg : (s.grow k p f g).M g (p % 8) = (f : Int) + 1 := setM_at _ _ _ _
  have hT : ∀ k' p' f', (s.grow k p f g).T k' p' = some f' → (k' = k + 1 ∧ p' = p ∧ f' = f) ∨ (¬ (k' = k + 1 ∧ p' = p) ∧ s.T k' p' = some f') := fun k' p' f' h1 => by
    by_cases c : k' = k + 1 ∧ p' = p
    · obtain ⟨rfl, rfl⟩ := c
      have : (s.grow k p' f g).T (k + 1) p' = some f := setT_at _ _ _ _
      rw [this] at h1
      exact .inl ⟨rfl, rfl, (Option.some.inj h1).symm⟩
    · exact .inr ⟨c, by rw [← h1]; exact (setT_ne c).symm⟩
  have hT' : ∀ k' p' f', s.T k' p' = some f' → (s.grow k p f g).T k' p' = some f' := fun k' p' f' h1 => by
    have c : ¬ (k' = k + 1 ∧ p' = p) := fun c => by rw [c.1, c.2, hn] at h1; cases h1
    rw [← h1]; exact setT_ne c
  have hTp : (s.grow k p f g).T (k + 1) p = some f := setT_at _ _ _ _
  refine ⟨?_, ?_, ?_, ?_, ?_, ?_, ?_, ?_, ?_, ?_⟩
  · obtain ⟨r, hr⟩ := h.root
    exact ⟨r, hT' _ _ _ hr⟩
  · intro k' p' f' h1
    rcases hT k' p' f' h1 with ⟨rfl, rfl, _⟩ | ⟨_, h2⟩
    · exact ⟨by omega, hp⟩
    · exact h.lvl k' p' f' h2
  · intro k' p' f' hk' h1 n hn8
    rcases hT k' p' f' h1 with ⟨rfl, rfl, rfl⟩ | ⟨c, h2⟩
    · rw [hMf]
      have hno : (s.grow k p' f' g).T (k + 1 + 1) (8 * p' + n) = none := by
        have e : (s.grow k p' f' g).T (k + 1 + 1) (8 * p' + n) = s.T (k + 1 + 1) (8 * p' + n) := setT_ne (fun x => by omega)
        rw [e]
        cases hx : s.T (k + 1 + 1) (8 * p' + n) with
        | none => rfl
        | some y =>
          obtain ⟨z, hz⟩ := h.par _ _ _ hx
          rw [show (8 * p' + n) / 8 = p' by omega, hn] at hz
          cases hz
      rw [hno]; rfl
    · by_cases e : f' = g ∧ n = p % 8
      · obtain ⟨rfl, rfl⟩ := e
        obtain ⟨e1, e2⟩ := h.inj _ _ _ _ _ h2 hg
        subst e1 e2
        rw [hMg, hdiv, hTp]; rfl
      · rw [hM _ _ _ h2 n e, h.kid k' p' f' hk' h2 n hn8]
        have c2 : ¬ (k' + 1 = k + 1 ∧ 8 * p' + n = p) := fun x => by
          have e1 : k' = k := by omega
          have e2 : p' = p / 8 := by omega
          subst e1 e2
          rw [hg] at h2
          exact e ⟨(Option.some.inj h2).symm, by omega⟩
        rw [show (s.grow k p f g).T (k' + 1) (8 * p' + n) = s.T (k' + 1) (8 * p' + n) from setT_ne c2]
  · intro k' p' g' h1
    rcases hT (k' + 1) p' g' h1 with ⟨e1, rfl, _⟩ | ⟨_, h2⟩
    · have : k' = k := by omega
      subst this
      exact ⟨g, hT' _ _ _ hg⟩
    · obtain ⟨y, hy⟩ := h.par _ _ _ h2
      exact ⟨y, hT' _ _ _ hy⟩
  · intro p' f' h1 n hn8
    show _ = s.E (8 * p' + n)
    rcases hT 3 p' f' h1 with ⟨e1, rfl, rfl⟩ | ⟨c, h2⟩
    · rw [hMf, h.no p' (by rw [show (3 : Nat) = k + 1 by omega]; exact hn) n hn8]
    · rw [hM _ _ _ h2 n (fun x => by
        obtain ⟨rfl, _⟩ := x
        have := (h.inj _ _ _ _ _ h2 hg).1
        omega)]
      exact h.leaf p' f' h2 n hn8
  · intro p' h1 n hn8
    refine h.no p' ?_ n hn8
    by_cases c : 3 = k + 1 ∧ p' = p
    · obtain ⟨c1, rfl⟩ := c
      rw [c1, hTp] at h1; cases h1
    · rw [← h1]; exact (setT_ne c).symm
  · intro k1 p1 k2 p2 x h1 h2
    rcases hT _ _ _ h1 with ⟨a1, a2, a3⟩ | ⟨_, b1⟩ <;> rcases hT _ _ _ h2 with ⟨c1, c2, c3⟩ | ⟨_, d1⟩
    · exact ⟨by omega, by omega⟩
    · exact absurd a3 (hfT _ _ _ d1)
    · exact absurd c3 (hfT _ _ _ b1)
    · exact h.inj _ _ _ _ _ b1 d1
  · intro x
    show x ∈ s.own ++ [f] ↔ _
    rw [List.mem_append, List.mem_singleton, h.mem]
    constructor
    · rintro (⟨k', p', hx⟩ | rfl)
      · exact ⟨k', p', hT' _ _ _ hx⟩
      · exact ⟨k + 1, p, hTp⟩
    · rintro ⟨k', p', hx⟩
      rcases hT _ _ _ hx with ⟨_, _, e⟩ | ⟨_, e⟩
      · exact .inr e
      · exact .inl ⟨k', p', e⟩
  · show (s.own ++ [f]).Nodup
    rw [List.nodup_append]
    exact ⟨h.nodup, by simp, fun a ha b hb => by rw [List.mem_singleton] at hb; subst hb; exact fun e => hf (e ▸ ha)⟩
  · intro k' p' f' h1
    rcases hT _ _ _ h1 with ⟨e1, e2, _⟩ | ⟨c, h2⟩
    · exact .inl ⟨e1, e2⟩
    · right
      rcases h.full _ _ _ h2 with ⟨x1, x2⟩ | ⟨n, hn8, hne⟩
      · rcases he with ⟨y1, y2⟩ | y
        · refine ⟨p % 8, by omega, ?_⟩
          have : f' = g := by
            rw [x1, y1, x2, y2, hg] at h2
            exact (Option.some.inj h2).symm
          rw [this, hMg]; omega
        · omega
      · by_cases e : f' = g ∧ n = p % 8
        · obtain ⟨rfl, rfl⟩ := e
          exact ⟨p % 8, by omega, by rw [hMg]; omega⟩
        · exact ⟨n, hn8, by rw [hM _ _ _ h2 n e]; exact hne⟩
/-- a table that has nothing goes -/
def TS.drop (s : TS) (k p f g : Nat) : TS := ⟨setT s.T (k + 1) p none, setM s.M g (p % 8) 0, s.E, s.own.filter (fun x => decide (x ≠ f))⟩
theorem tok_drop {s : TS} {k p f g : Nat} (h : TOk s (k + 1) p) (hg : s.T k (p / 8) = some g) (hf : s.T (k + 1) p = some f) (h0 : ∀ n, n < 8 → s.M f n = 0) : TOk (s.drop k p f g) k (p / 8) := by
  have hl := h.lvl _ _ _ hf
  have hgf : g ≠ f := fun e => by
    have := (h.inj _ _ _ _ _ hg (e ▸ hf)).1
    omega
  have hdiv : 8 * (p / 8) + p % 8 = p := Nat.div_add_mod p 8
  have hM : ∀ f' n, ¬ (f' = g ∧ n = p % 8) → (s.drop k p f g).M f' n = s.M f' n := fun f' n hne => setM_ne hne
  have hMg : (s.drop k p f g).M g (p % 8) = 0 := setM_at _ _ _ _
  have hTp : (s.drop k p f g).T (k + 1) p = none := setT_at _ _ _ _
  have hT : ∀ k' p' f', (s.drop k p f g).T k' p' = some f' → ¬ (k' = k + 1 ∧ p' = p) ∧ s.T k' p' = some f' := fun k' p' f' h1 => by
    by_cases c : k' = k + 1 ∧ p' = p
    · obtain ⟨rfl, rfl⟩ := c
      rw [hTp] at h1; cases h1
    · exact ⟨c, by rw [← h1]; exact (setT_ne c).symm⟩
  have hT' : ∀ k' p', ¬ (k' = k + 1 ∧ p' = p) → (s.drop k p f g).T k' p' = s.T k' p' := fun k' p' c => setT_ne c
  refine ⟨?_, ?_, ?_, ?_, ?_, ?_, ?_, ?_, ?_, ?_⟩
  · obtain ⟨r, hr⟩ := h.root
    exact ⟨r, by rw [hT' 0 0 (fun x => by omega)]; exact hr⟩
  · intro k' p' f' h1
    exact h.lvl _ _ _ (hT _ _ _ h1).2
  · intro k' p' f' hk' h1 n hn8
    obtain ⟨c, h2⟩ := hT _ _ _ h1
    by_cases e : f' = g ∧ n = p % 8
    · obtain ⟨rfl, rfl⟩ := e
      obtain ⟨e1, e2⟩ := h.inj _ _ _ _ _ h2 hg
      subst e1 e2
      rw [hMg, hdiv, hTp]; rfl
    · rw [hM _ _ e, h.kid k' p' f' hk' h2 n hn8]
      have c2 : ¬ (k' + 1 = k + 1 ∧ 8 * p' + n = p) := fun x => by
        have e1 : k' = k := by omega
        have e2 : p' = p / 8 := by omega
        subst e1 e2
        rw [hg] at h2
        exact e ⟨(Option.some.inj h2).symm, by omega⟩
      rw [hT' _ _ c2]
  · intro k' p' g' h1
    obtain ⟨c, h2⟩ := hT _ _ _ h1
    obtain ⟨y, hy⟩ := h.par _ _ _ h2
    refine ⟨y, ?_⟩
    rw [hT' _ _ (fun x => ?_)]
    · exact hy
    · -- the table had nothing
      obtain ⟨x1, x2⟩ := x
      have hk3 : k + 1 < 3 := by
        have := (h.lvl _ _ _ h2).1
        omega
      have e0 := h.kid (k + 1) p f hk3 hf (p' % 8) (by omega)
      rw [h0 _ (by omega), show 8 * p + p' % 8 = p' by omega] at e0
      have := kidV_none e0.symm
      rw [show k + 1 + 1 = k' + 1 by omega] at this
      rw [this] at h2; cases h2
  · intro p' f' h1 n hn8
    obtain ⟨c, h2⟩ := hT _ _ _ h1
    show _ = s.E (8 * p' + n)
    rw [hM _ _ (fun x => by
      obtain ⟨rfl, _⟩ := x
      have := (h.inj _ _ _ _ _ h2 hg).1
      omega)]
    exact h.leaf p' f' h2 n hn8
  · intro p' h1 n hn8
    show s.E (8 * p' + n) = 0
    by_cases c : 3 = k + 1 ∧ p' = p
    · obtain ⟨c1, rfl⟩ := c
      rw [← h.leaf p' f (by rw [c1]; exact hf) n hn8]
      exact h0 n hn8
    · exact h.no p' (by rw [← hT' _ _ c]; exact h1) n hn8
  · intro k1 p1 k2 p2 x h1 h2
    exact h.inj _ _ _ _ _ (hT _ _ _ h1).2 (hT _ _ _ h2).2
  · intro x
    show x ∈ s.own.filter (fun x => decide (x ≠ f)) ↔ _
    rw [List.mem_filter, h.mem, decide_eq_true_eq]
    constructor
    · rintro ⟨⟨k', p', hx⟩, hne⟩
      exact ⟨k', p', by rw [hT' _ _ (fun c => by rw [c.1, c.2, hf] at hx; exact hne (Option.some.inj hx).symm)]; exact hx⟩
    · rintro ⟨k', p', hx⟩
      obtain ⟨c, h2⟩ := hT _ _ _ hx
      exact ⟨⟨k', p', h2⟩, fun e => c (h.inj _ _ _ _ _ (e ▸ h2) hf)⟩
  · exact h.nodup.filter _
  · intro k' p' f' h1
    obtain ⟨c, h2⟩ := hT _ _ _ h1
    by_cases e1 : k' + 1 = k ∧ p' = p / 8
    · exact .inl e1
    · right
      rcases h.full _ _ _ h2 with x | ⟨n, hn8, hne⟩
      · exact absurd x c
      · refine ⟨n, hn8, ?_⟩
        rw [hM _ _ (fun x => by
          obtain ⟨rfl, _⟩ := x
          exact e1 (h.inj _ _ _ _ _ h2 hg))]
        exact hne
/-- a page's number -/
def TS.put (s : TS) (pg f : Nat) (v : Int) : TS := ⟨s.T, setM s.M f (pg % 8) v, fun q => if q = pg then v else s.E q, s.own⟩
theorem tok_put {s : TS} {ek ep pg f : Nat} (v : Int) (h : TOk s ek ep) (he : (ek = 3 ∧ ep = pg / 8) ∨ ek = 0) (hf : s.T 3 (pg / 8) = some f) : TOk (s.put pg f v) 3 (pg / 8) := by
  have hdiv : 8 * (pg / 8) + pg % 8 = pg := Nat.div_add_mod pg 8
  have hM : ∀ f' n, ¬ (f' = f ∧ n = pg % 8) → (s.put pg f v).M f' n = s.M f' n := fun f' n hne => setM_ne hne
  refine ⟨h.root, h.lvl, fun k' p' f' hk' h1 n hn8 => ?_, h.par, fun p' f' h1 n hn8 => ?_, fun p' h1 n hn8 => ?_, h.inj, h.mem, h.nodup, fun k' p' f' h1 => ?_⟩
  · rw [hM _ _ (fun x => by
      obtain ⟨rfl, _⟩ := x
      have := (h.inj _ _ _ _ _ h1 hf).1
      omega)]
    exact h.kid k' p' f' hk' h1 n hn8
  · show _ = if 8 * p' + n = pg then v else s.E (8 * p' + n)
    by_cases c : f' = f ∧ n = pg % 8
    · obtain ⟨rfl, rfl⟩ := c
      obtain ⟨_, rfl⟩ := h.inj _ _ _ _ _ h1 hf
      rw [if_pos hdiv]
      exact setM_at _ _ _ _
    · rw [hM _ _ c, h.leaf p' f' h1 n hn8, if_neg (fun x => c ?_)]
      have e2 : p' = pg / 8 := by omega
      subst e2
      have h1' : s.T 3 (pg / 8) = some f' := h1
      rw [hf] at h1'
      exact ⟨(Option.some.inj h1').symm, by omega⟩
  · show (if 8 * p' + n = pg then v else s.E (8 * p' + n)) = 0
    rw [if_neg (fun x => by
      have e2 : p' = pg / 8 := by omega
      subst e2
      rw [show (s.put pg f v).T 3 (pg / 8) = s.T 3 (pg / 8) from rfl, hf] at h1
      cases h1)]
    exact h.no p' h1 n hn8
  · by_cases c : k' + 1 = 3 ∧ p' = pg / 8
    · exact .inl c
    · right
      rcases h.full _ _ _ h1 with x | ⟨n, hn8, hne⟩
      · rcases he with ⟨y1, y2⟩ | y
        · exact absurd ⟨by omega, by omega⟩ c
        · omega
      · exact ⟨n, hn8, by
          rw [hM _ _ (fun x => by
            obtain ⟨rfl, _⟩ := x
            exact c (h.inj _ _ _ _ _ h1 hf))]
          exact hne⟩
theorem tok_done {s : TS} {ek ep f : Nat} (h : TOk s ek ep) (hf : s.T ek ep = some f) (hx : ek = 0 ∨ ∃ n, n < 8 ∧ s.M f n ≠ 0) : TOk s 0 0 :=
  ⟨h.root, h.lvl, h.kid, h.par, h.leaf, h.no, h.inj, h.mem, h.nodup, fun k p f' h1 => by
    rcases h.full _ _ _ h1 with ⟨e1, e2⟩ | y
    · rcases hx with c | c
      · omega
      · rw [e1, e2, hf] at h1
        rw [← Option.some.inj h1]; exact .inr c
    · exact .inr y⟩
/-! ### how many tables -/
theorem up3 {s : TS} (h : TOk s 0 0) {p f : Nat} (hf : s.T 3 p = some f) : ∃ q, q / 8 = p ∧ s.E q ≠ 0 := by
  rcases h.full 2 p f hf with ⟨x, _⟩ | ⟨n, hn, hne⟩
  · omega
  · exact ⟨8 * p + n, by omega, by rw [← h.leaf p f hf n hn]; exact hne⟩
theorem upk {s : TS} (h : TOk s 0 0) {k p f : Nat} (hk : k < 2) (hf : s.T (k + 1) p = some f) : ∃ p' g, p' / 8 = p ∧ s.T (k + 2) p' = some g := by
  rcases h.full k p f hf with ⟨x, _⟩ | ⟨n, hn, hne⟩
  · omega
  · have e := h.kid (k + 1) p f (by omega) hf n hn
    cases hx : s.T (k + 2) (8 * p + n) with
    | none => rw [hx] at e; exact absurd e hne
    | some g => exact ⟨8 * p + n, g, by omega, hx⟩
theorem down3 {s : TS} (h : TOk s 0 0) {q : Nat} (hq : s.E q ≠ 0) : ∃ f, s.T 3 (q / 8) = some f := by
  cases hx : s.T 3 (q / 8) with
  | none => exact absurd (by have := h.no (q / 8) hx (q % 8) (by omega); rwa [Nat.div_add_mod] at this) hq
  | some f => exact ⟨f, rfl⟩
/-- what a level's size is -/
def lsz (k : Nat) : Nat := if k = 1 then 512 else if k = 2 then 64 else 8
theorem has_iff {s : TS} (h : TOk s 0 0) (k p : Nat) (hk : 1 ≤ k ∧ k ≤ 3) : (∃ f, s.T k p = some f) ↔ ∃ q, q / lsz k = p ∧ s.E q ≠ 0 := by
  have d3 : ∀ q, s.E q ≠ 0 → ∃ f, s.T 3 (q / 8) = some f := fun q hq => down3 h hq
  have d2 : ∀ q, s.E q ≠ 0 → ∃ f, s.T 2 (q / 64) = some f := fun q hq => by
    obtain ⟨f, hf⟩ := d3 q hq
    obtain ⟨g, hg⟩ := h.par 2 _ _ hf
    rw [Nat.div_div_eq_div_mul] at hg
    exact ⟨g, hg⟩
  have d1 : ∀ q, s.E q ≠ 0 → ∃ f, s.T 1 (q / 512) = some f := fun q hq => by
    obtain ⟨f, hf⟩ := d2 q hq
    obtain ⟨g, hg⟩ := h.par 1 _ _ hf
    rw [Nat.div_div_eq_div_mul] at hg
    exact ⟨g, hg⟩
  have u3 : ∀ p f, s.T 3 p = some f → ∃ q, q / 8 = p ∧ s.E q ≠ 0 := fun p f hf => up3 h hf
  have u2 : ∀ p f, s.T 2 p = some f → ∃ q, q / 64 = p ∧ s.E q ≠ 0 := fun p f hf => by
    obtain ⟨p', g, e, hg⟩ := upk h (k := 1) (by omega) hf
    obtain ⟨q, e2, hq⟩ := u3 p' g hg
    exact ⟨q, by omega, hq⟩
  have u1 : ∀ p f, s.T 1 p = some f → ∃ q, q / 512 = p ∧ s.E q ≠ 0 := fun p f hf => by
    obtain ⟨p', g, e, hg⟩ := upk h (k := 0) (by omega) hf
    obtain ⟨q, e2, hq⟩ := u2 p' g hg
    exact ⟨q, by omega, hq⟩
  rcases (by omega : k = 1 ∨ k = 2 ∨ k = 3) with rfl | rfl | rfl
  · exact ⟨fun ⟨f, hf⟩ => u1 p f hf, fun ⟨q, e, hq⟩ => by rw [← e]; exact d1 q hq⟩
  · exact ⟨fun ⟨f, hf⟩ => u2 p f hf, fun ⟨q, e, hq⟩ => by rw [← e]; exact d2 q hq⟩
  · exact ⟨fun ⟨f, hf⟩ => u3 p f hf, fun ⟨q, e, hq⟩ => by rw [← e]; exact d3 q hq⟩
/-- each once, in the order of the list -/
def ded (l : List Nat) : List Nat := l.foldl (fun seen x => if x ∈ seen then seen else seen ++ [x]) []
theorem ded_gen (l : List Nat) : ∀ seen : List Nat, seen.Nodup → (l.foldl (fun seen x => if x ∈ seen then seen else seen ++ [x]) seen).Nodup ∧ ∀ y, y ∈ l.foldl (fun seen x => if x ∈ seen then seen else seen ++ [x]) seen ↔ y ∈ seen ∨ y ∈ l := by
  induction l with
  | nil => exact fun seen h => ⟨h, fun y => by simp⟩
  | cons a l ih =>
    intro seen h
    rw [List.foldl_cons]
    by_cases c : a ∈ seen
    · rw [if_pos c]
      obtain ⟨h1, h2⟩ := ih seen h
      exact ⟨h1, fun y => by rw [h2, List.mem_cons]; constructor
                             · rintro (x | x)
                               · exact .inl x
                               · exact .inr (.inr x)
                             · rintro (x | rfl | x)
                               · exact .inl x
                               · exact .inl c
                               · exact .inr x⟩
    · rw [if_neg c]
      obtain ⟨h1, h2⟩ := ih (seen ++ [a]) (by
        rw [List.nodup_append]
        exact ⟨h, by simp, fun x hx y hy => by rw [List.mem_singleton] at hy; subst hy; exact fun e => c (e ▸ hx)⟩)
      exact ⟨h1, fun y => by rw [h2, List.mem_append, List.mem_singleton, List.mem_cons]; constructor
                             · rintro ((x | x) | x)
                               · exact .inl x
                               · exact .inr (.inl x)
                               · exact .inr (.inr x)
                             · rintro (x | x | x)
                               · exact .inl (.inl x)
                               · exact .inl (.inr x)
                               · exact .inr x⟩
theorem ded_nodup (l : List Nat) : (ded l).Nodup := (ded_gen l [] List.nodup_nil).1
theorem mem_ded (l : List Nat) (y : Nat) : y ∈ ded l ↔ y ∈ l := by
  have := (ded_gen l [] List.nodup_nil).2 y
  rw [show ded l = l.foldl _ [] from rfl, this]; simp
def lvN (pages : List Nat) (k : Nat) : Nat := (ded (pages.map (· / lsz k))).length
/-- how many tables pages take -/
def tablesN (pages : List Nat) : Nat := 1 + lvN pages 1 + lvN pages 2 + lvN pages 3
def lvL (s : TS) (pages : List Nat) (k : Nat) : List Nat := (ded (pages.map (· / lsz k))).map (fun p => (s.T k p).getD 0)
theorem lvL_mem {s : TS} (h : TOk s 0 0) {pages : List Nat} (hp : ∀ q, q ∈ pages ↔ s.E q ≠ 0) (k : Nat) (hk : 1 ≤ k ∧ k ≤ 3) (f : Nat) : f ∈ lvL s pages k ↔ ∃ p, s.T k p = some f := by
  unfold lvL
  rw [List.mem_map]
  constructor
  · rintro ⟨p, hp1, rfl⟩
    rw [mem_ded, List.mem_map] at hp1
    obtain ⟨q, hq, e⟩ := hp1
    obtain ⟨f, hf⟩ := (has_iff h k p hk).mpr ⟨q, e, (hp q).mp hq⟩
    exact ⟨p, by rw [hf]; rfl⟩
  · rintro ⟨p, hf⟩
    obtain ⟨q, e, hq⟩ := (has_iff h k p hk).mp ⟨f, hf⟩
    exact ⟨p, by rw [mem_ded, List.mem_map]; exact ⟨q, (hp q).mpr hq, e⟩, by rw [hf]; rfl⟩
theorem lvL_nodup {s : TS} (h : TOk s 0 0) {pages : List Nat} (hp : ∀ q, q ∈ pages ↔ s.E q ≠ 0) (k : Nat) (hk : 1 ≤ k ∧ k ≤ 3) : (lvL s pages k).Nodup := by
  unfold lvL
  rw [List.nodup_iff_pairwise_ne, List.pairwise_map]
  refine (List.nodup_iff_pairwise_ne.mp (ded_nodup _)).imp_of_mem ?_
  intro a b ha hb hab e
  rw [mem_ded, List.mem_map] at ha hb
  obtain ⟨q, hq, ea⟩ := ha
  obtain ⟨q', hq', eb⟩ := hb
  obtain ⟨f, hf⟩ := (has_iff h k a hk).mpr ⟨q, ea, (hp q).mp hq⟩
  obtain ⟨g, hg⟩ := (has_iff h k b hk).mpr ⟨q', eb, (hp q').mp hq'⟩
  rw [hf, hg] at e
  have e2 : f = g := e
  subst e2
  exact hab (h.inj _ _ _ _ _ hf hg).2
theorem own_count {s : TS} (h : TOk s 0 0) {pages : List Nat} (hp : ∀ q, q ∈ pages ↔ s.E q ≠ 0) : s.own.length = tablesN pages := by
  obtain ⟨r, hr⟩ := h.root
  have hall : s.own.Perm ([r] ++ (lvL s pages 1 ++ (lvL s pages 2 ++ lvL s pages 3))) := by
    have dj : ∀ k k' f, k ≠ k' → (∃ p, s.T k p = some f) → ¬ ∃ p, s.T k' p = some f := fun k k' f hne ⟨p, h1⟩ ⟨p', h2⟩ => hne (h.inj _ _ _ _ _ h1 h2).1
    refine (List.perm_ext_iff_of_nodup h.nodup ?_).mpr fun f => ?_
    · have n1 := lvL_nodup h hp 1 (by omega)
      have n2 := lvL_nodup h hp 2 (by omega)
      have n3 := lvL_nodup h hp 3 (by omega)
      refine List.nodup_append.mpr ⟨by simp, List.nodup_append.mpr ⟨n1, List.nodup_append.mpr ⟨n2, n3, ?_⟩, ?_⟩, ?_⟩
      · intro a ha b hb e
        subst e
        exact dj 2 3 a (by omega) ((lvL_mem h hp 2 (by omega) a).mp ha) ((lvL_mem h hp 3 (by omega) a).mp hb)
      · intro a ha b hb e
        subst e
        rcases List.mem_append.mp hb with hb | hb
        · exact dj 1 2 a (by omega) ((lvL_mem h hp 1 (by omega) a).mp ha) ((lvL_mem h hp 2 (by omega) a).mp hb)
        · exact dj 1 3 a (by omega) ((lvL_mem h hp 1 (by omega) a).mp ha) ((lvL_mem h hp 3 (by omega) a).mp hb)
      · intro a ha b hb e
        subst e
        rw [List.mem_singleton] at ha
        subst ha
        rcases List.mem_append.mp hb with hb | hb
        · exact dj 0 1 a (by omega) ⟨0, hr⟩ ((lvL_mem h hp 1 (by omega) a).mp hb)
        · rcases List.mem_append.mp hb with hb | hb
          · exact dj 0 2 a (by omega) ⟨0, hr⟩ ((lvL_mem h hp 2 (by omega) a).mp hb)
          · exact dj 0 3 a (by omega) ⟨0, hr⟩ ((lvL_mem h hp 3 (by omega) a).mp hb)
    · rw [h.mem, List.mem_append, List.mem_append, List.mem_append, List.mem_singleton, lvL_mem h hp 1 (by omega), lvL_mem h hp 2 (by omega), lvL_mem h hp 3 (by omega)]
      constructor
      · rintro ⟨k, p, hx⟩
        obtain ⟨hk, hp8⟩ := h.lvl _ _ _ hx
        rcases (by omega : k = 0 ∨ k = 1 ∨ k = 2 ∨ k = 3) with rfl | rfl | rfl | rfl
        · obtain rfl : p = 0 := by simp at hp8; exact hp8
          rw [hr] at hx
          exact .inl (Option.some.inj hx).symm
        · exact .inr (.inl ⟨p, hx⟩)
        · exact .inr (.inr (.inl ⟨p, hx⟩))
        · exact .inr (.inr (.inr ⟨p, hx⟩))
      · rintro (rfl | ⟨p, hx⟩ | ⟨p, hx⟩ | ⟨p, hx⟩)
        · exact ⟨0, 0, hr⟩
        · exact ⟨1, p, hx⟩
        · exact ⟨2, p, hx⟩
        · exact ⟨3, p, hx⟩
  have hl := hall.length_eq
  rw [hl]
  simp only [List.length_append, List.length_singleton, lvL, List.length_map]
  unfold tablesN lvN
  omega
/-! ### the way to a page -/
/-- a page's prefix at a level -/
def pre (pg k : Nat) : Nat := pg / 8 ^ (4 - k)
theorem pre_succ (pg k : Nat) (hk : k < 4) : pre pg (k + 1) / 8 = pre pg k := by
  unfold pre
  rw [Nat.div_div_eq_div_mul, show 4 - k = 4 - (k + 1) + 1 by omega, Nat.pow_succ]
theorem pre_zero {pg : Nat} (h : pg < 4096) : pre pg 0 = 0 := by unfold pre; omega
theorem pre_lt {pg : Nat} (h : pg < 4096) (k : Nat) (hk : k ≤ 4) : pre pg k < 8 ^ k := by
  unfold pre
  rcases (by omega : k = 0 ∨ k = 1 ∨ k = 2 ∨ k = 3 ∨ k = 4) with rfl | rfl | rfl | rfl | rfl <;> omega
theorem pre3 (pg : Nat) : pre pg 3 = pg / 8 := by unfold pre; rfl
theorem fresh (l : List Nat) : ∃ f, f ∉ l := by
  refine ⟨l.foldr (fun a b => a + b + 1) 0, fun h => ?_⟩
  have key : ∀ (l : List Nat) x, x ∈ l → x < l.foldr (fun a b => a + b + 1) 0 := fun l => by
    induction l with
    | nil => intro x hx; cases hx
    | cons a l ih =>
      intro x hx
      rw [List.foldr_cons]
      rcases List.mem_cons.mp hx with rfl | hx
      · omega
      · have := ih x hx; omega
  exact Nat.lt_irrefl _ (key l _ h)
/-- no table: none below it -/
theorem none_below {s : TS} {ek ep : Nat} (h : TOk s ek ep) {pg k : Nat} (hk : k < 4) (hn : s.T k (pre pg k) = none) : s.T (k + 1) (pre pg (k + 1)) = none := by
  cases hx : s.T (k + 1) (pre pg (k + 1)) with
  | none => rfl
  | some g =>
    obtain ⟨f, hf⟩ := h.par _ _ _ hx
    rw [pre_succ pg k hk, hn] at hf
    cases hf
theorem grow_way {s : TS} {ek ep : Nat} {pg : Nat} (hpg : pg < 4096) : ∀ (d k : Nat), k + d = 3 → TOk s ek ep → ((ek = k ∧ ep = pre pg k) ∨ ek = 0) → (∃ g, s.T k (pre pg k) = some g) → (0 < d → s.T (k + 1) (pre pg (k + 1)) = none) → ∃ s' f, TOk s' (if d = 0 then ek else 3) (if d = 0 then ep else pre pg 3) ∧ s'.E = s.E ∧ s'.own.length = s.own.length + d ∧ s'.T 3 (pre pg 3) = some f := by
  intro d
  induction d generalizing s ek ep with
  | zero =>
    intro k hk h he hg _
    obtain rfl : k = 3 := by omega
    obtain ⟨g, hg⟩ := hg
    exact ⟨s, g, h, rfl, rfl, hg⟩
  | succ d ih =>
    intro k hk h he hg hn
    obtain ⟨g, hg⟩ := hg
    obtain ⟨f, hf⟩ := fresh s.own
    have hn := hn (by omega)
    have hps := pre_succ pg k (by omega)
    have h1 := tok_grow h (k := k) (p := pre pg (k + 1)) (f := f) (g := g) (by omega) (pre_lt hpg (k + 1) (by omega)) (by rw [hps]; exact hg) hn hf (by rw [hps]; exact he)
    have hT1 : (s.grow k (pre pg (k + 1)) f g).T (k + 1) (pre pg (k + 1)) = some f := setT_at _ _ _ _
    obtain ⟨s', f', a, b, c, e⟩ := ih (k + 1) (by omega) h1 (.inl ⟨rfl, rfl⟩) ⟨f, hT1⟩ (fun hd => by
      rw [show (s.grow k (pre pg (k + 1)) f g).T (k + 1 + 1) (pre pg (k + 1 + 1)) = s.T (k + 1 + 1) (pre pg (k + 1 + 1)) from setT_ne (fun x => by omega)]
      exact none_below h (by omega) hn)
    refine ⟨s', f', ?_, b, ?_, e⟩
    · rw [if_neg (by omega), if_neg (by omega)]
      by_cases c0 : d = 0
      · subst c0
        rw [if_pos rfl, if_pos rfl] at a
        obtain rfl : k = 2 := by omega
        exact a
      · rw [if_neg c0, if_neg c0] at a; exact a
    · rw [c]
      show (s.own ++ [f]).length + d = _
      rw [List.length_append, List.length_singleton]; omega
/-- how many tables it would take with one page more -/
theorem need_count {s : TS} (h : TOk s 0 0) {pg L : Nat} (hpg : pg < 4096) (hL : 1 ≤ L ∧ L ≤ 3) (hg : ∃ g, s.T (L - 1) (pre pg (L - 1)) = some g) (hn : s.T L (pre pg L) = none) {pages : List Nat} (hp : ∀ q, q ∈ pages ↔ (q = pg ∨ s.E q ≠ 0)) : tablesN pages = s.own.length + (4 - L) := by
  obtain ⟨s', f, a, b, c, e⟩ := grow_way hpg (4 - L) (L - 1) (by omega) h (.inr rfl) hg (fun _ => by rw [show L - 1 + 1 = L by omega]; exact hn)
  rw [if_neg (by omega), if_neg (by omega)] at a
  have e3 : pre pg 3 = pg / 8 := pre3 pg
  have h2 := tok_put (pg := pg) (f := f) 1 a (.inl ⟨rfl, e3⟩) (by rw [← e3]; exact e)
  have h3 : TOk (s'.put pg f 1) 0 0 := tok_done h2 (f := f) (by show s'.T 3 (pg / 8) = _; rw [← e3]; exact e) (.inr ⟨pg % 8, by omega, by
    have : (s'.put pg f 1).M f (pg % 8) = 1 := setM_at _ _ _ _
    rw [this]; decide⟩)
  have h4 := own_count h3 (pages := pages) (fun q => by
    rw [hp]
    show _ ↔ (if q = pg then (1 : Int) else s'.E q) ≠ 0
    rw [b]
    by_cases c : q = pg
    · rw [if_pos c]; exact ⟨fun _ => by decide, fun _ => .inl c⟩
    · rw [if_neg c]; exact ⟨fun x => x.resolve_left c, fun x => .inr x⟩)
  rw [← h4]
  show s'.own.length = _
  omega
end Go.Proofs.Ytimdojkhdneecaa.Tree
