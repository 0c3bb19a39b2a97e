/- A journal that is played: what the sectors say (plain); acts that came in. -/
import Derived.Test.YtmonkoclbcahiaaJourE
import Derived.Test.YtmonkoclbcahiaaHpE
namespace Go.Proofs.Ytmonkoclbcahiaa.Jour
open Go.RowKit Go.Proofs.Ytmonkoclbcahiaa.Hp Go.Proofs.Ytmonkoclbcahiaa.By Go.Proofs.Ytmonkoclbcahiaa.Disk Go.Proofs.Ytmonkoclbcahiaa.Word Go.Proofs.Ytmonkoclbcahiaa.WordP Go.Proofs.Ytmonkoclbcahiaa.Log Go.Proofs.Ytmonkoclbcahiaa.Slot
set_option linter.unusedVariables false
set_option linter.unusedSimpArgs false
theorem num_zero {gen n : Int} (h : 0 < n ∧ n < 4294967296) : recOf (List.replicate 64 0) gen n = none := by
  cases e : recOf (List.replicate 64 0) gen n with
  | none => rfl
  | some b =>
    obtain ⟨h1, h2⟩ := rec_some e
    have a := sec_num gen n b h2
    rw [h1] at a
    have z : ((List.replicate 64 (0 : Int)).drop 4).take 4 = digs 0 4 := by decide
    rw [z] at a
    have := digs_inj (by omega) (by omega) a
    omega
theorem none_zero {gen : Int} (g : 0 ≤ gen ∧ gen < 4294967296) (n : Nat) (hn : n < 4294967296) : recOf (List.replicate 64 0) gen n = none := by
  by_cases c : 0 < gen
  · exact rec_zero ⟨c, g.2⟩
  · obtain rfl : gen = 0 := by omega
    by_cases c2 : n = 0
    · subst c2; exact sum_zero
    · exact num_zero (by omega)
theorem getD_snoc {α : Type} (ws : List α) (p z : α) (j : Nat) : (ws ++ [p]).getD j z = if j = ws.length then p else ws.getD j z := by
  rw [List.getD_eq_getElem?_getD, List.getD_eq_getElem?_getD]
  by_cases c : j < ws.length
  · rw [List.getElem?_append_left c, if_neg (by omega)]
  · by_cases c2 : j = ws.length
    · subst c2
      rw [List.getElem?_append_right (by omega), if_pos rfl]; simp
    · rw [List.getElem?_append_right (by omega), if_neg c2, List.getElem?_eq_none (by simp; omega), List.getElem?_eq_none (by omega)]
/-- the two slots -/
def Two (f : Nat → List Int) (gen : Int) (now : List Int) : Prop :=
  0 ≤ gen ∧ (gen = 0 → now = [] ∧ ∀ j, 64 ≤ j → j < 96 → f j = List.replicate 64 0) ∧ (0 < gen → ∀ w : Nat, w < 2 → (w : Int) = gen % 2 → oneOf f w = some (gen, now) ∧ (f (64 + 16 * (1 - w)) = List.replicate 64 0 ∨ ∃ b, f (64 + 16 * (1 - w)) = headL (gen - 1) b))
theorem two_load {f : Nat → List Int} {gen : Int} {now : List Int} (h : Two f gen now) (g1 : gen < 4294967296) : loadOf f = (gen, now) := by
  obtain ⟨h2, h3, h4⟩ := h
  by_cases c : gen = 0
  · obtain ⟨rfl, hz⟩ := h3 c
    subst c
    rw [← load_zero]; exact load_congr hz
  · obtain ⟨w, hw2, hw⟩ : ∃ w : Nat, w < 2 ∧ (w : Int) = gen % 2 := ⟨(gen % 2).toNat, by omega, by omega⟩
    obtain ⟨o1, o2⟩ := h4 (by omega) w hw2 hw
    refine load_two w hw2 h2 o1 fun q hq => ?_
    rcases o2 with o2 | ⟨b, o2⟩
    · rw [one_zeros (by omega) o2] at hq; cases hq
    · have := one_gen (g := gen - 1) (b := b) (by omega) (by omega) o2 hq
      omega
theorem two_next {f : Nat → List Int} {gen : Int} {now l : List Int} (h : Two f gen now) (g1 : gen + 1 < 4294967296) (hl : l.length ≤ 960) : Two (savedF f (gen + 1) l) (gen + 1) l := by
  obtain ⟨h2, h3, h4⟩ := h
  refine ⟨by omega, fun x => by omega, fun _ w hw2 hw => ⟨one_saved f (gen + 1) l (by omega) g1 hl w hw, ?_⟩⟩
  have hp := pagesN_le hl
  have e : savedF f (gen + 1) l (64 + 16 * (1 - w)) = f (64 + 16 * (1 - w)) := by
    unfold savedF
    rcases aN_rng (gen + 1) with ⟨a, b⟩ | ⟨a, b⟩
    · rw [if_neg (by omega), if_neg (by omega)]
    · rw [if_neg (by omega), if_neg (by omega)]
  rw [e]
  by_cases c : gen = 0
  · exact .inl ((h3 c).2 _ (by omega) (by omega))
  · obtain ⟨o1, _⟩ := h4 (by omega) (1 - w) (by omega) (by omega)
    refine .inr ⟨now, ?_⟩
    have := one_head o1
    rw [this]
    show headL gen now = headL (gen + 1 - 1) now
    congr 1; omega
theorem two_congr {f f' : Nat → List Int} {gen : Int} {now : List Int} (h : Two f gen now) (he : ∀ j, 64 ≤ j → j < 96 → f' j = f j) : Two f' gen now := by
  obtain ⟨h2, h3, h4⟩ := h
  refine ⟨h2, fun c => ⟨(h3 c).1, fun j a b => by rw [he j a b]; exact (h3 c).2 j a b⟩, fun c w hw2 hw => ?_⟩
  obtain ⟨o1, o2⟩ := h4 c w hw2 hw
  refine ⟨by rw [one_congr (f' := f) (fun j a b => he j (by omega) (by omega))]; exact o1, ?_⟩
  rw [he _ (by omega) (by omega)]; exact o2
/-- the log: these records, and behind them older ones, or none -/
def LogOk (f : Nat → List Int) (gen : Int) (ws : List (List Int)) : Prop :=
  ws.length ≤ 64 ∧ (∀ p ∈ ws, p.length ≤ 50) ∧ (∀ j, j < ws.length → f j = secL gen j (ws.getD j [])) ∧ ∀ j, ws.length ≤ j → j < 64 → f j = List.replicate 64 0 ∨ ∃ (g' : Int) (p : List Int), 0 ≤ g' ∧ g' < gen ∧ p.length ≤ 50 ∧ f j = secL g' j p
theorem log_new (gen : Int) : LogOk (fun _ => List.replicate 64 0) gen [] := ⟨by simp, fun p hp => (by cases hp), fun j hj => by simp at hj, fun j _ _ => .inl rfl⟩
theorem log_app {f : Nat → List Int} {gen : Int} {ws : List (List Int)} (h : LogOk f gen ws) (p : List Int) (hp : p.length ≤ 50) (hl : ws.length < 64) : LogOk (fun j => if j = ws.length then secL gen ws.length p else f j) gen (ws ++ [p]) := by
  obtain ⟨h1, h2, h3, h4⟩ := h
  refine ⟨by simp; omega, fun q hq => ?_, fun j hj => ?_, fun j hj hj2 => ?_⟩
  · rcases List.mem_append.mp hq with hq | hq
    · exact h2 q hq
    · rw [List.mem_singleton] at hq; subst hq; exact hp
  · rw [List.length_append, List.length_singleton] at hj
    rw [getD_snoc]
    show (if j = ws.length then secL gen ws.length p else f j) = _
    by_cases c : j = ws.length
    · rw [if_pos c, if_pos c, c]
    · rw [if_neg c, if_neg c]; exact h3 j (by omega)
  · rw [List.length_append, List.length_singleton] at hj
    show (if j = ws.length then secL gen ws.length p else f j) = _ ∨ ∃ (g' : Int) (q : List Int), 0 ≤ g' ∧ g' < gen ∧ q.length ≤ 50 ∧ (if j = ws.length then secL gen ws.length p else f j) = secL g' j q
    rw [if_neg (by omega)]
    exact h4 j (by omega) hj2
theorem log_next {f f' : Nat → List Int} {gen : Int} {ws : List (List Int)} (g0 : 0 ≤ gen) (h : LogOk f gen ws) (he : ∀ j, j < 64 → f' j = f j) : LogOk f' (gen + 1) [] := by
  obtain ⟨h1, h2, h3, h4⟩ := h
  refine ⟨by simp, fun p hp => (by cases hp), fun j hj => by simp at hj, fun j _ hj => ?_⟩
  rw [he j hj]
  by_cases c : j < ws.length
  · exact .inr ⟨gen, ws.getD j [], g0, by omega, h2 _ (by rw [List.getD_eq_getElem?_getD, List.getElem?_eq_getElem c]; exact List.getElem_mem _), h3 j c⟩
  · rcases h4 j (by omega) hj with x | ⟨g', p, a, b, c', d⟩
    · exact .inl x
    · exact .inr ⟨g', p, a, by omega, c', d⟩
theorem log_some {f : Nat → List Int} {gen : Int} {ws : List (List Int)} (h : LogOk f gen ws) (j : Nat) (hj : j < ws.length) : recOf (f j) gen j = some (ws.getD j []) := by
  rw [h.2.2.1 j hj]
  exact rec_sec gen j _ (h.2.1 _ (by rw [List.getD_eq_getElem?_getD, List.getElem?_eq_getElem hj]; exact List.getElem_mem _))
theorem log_none {f : Nat → List Int} {gen : Int} {ws : List (List Int)} (g : 0 ≤ gen ∧ gen < 4294967296) (h : LogOk f gen ws) : ws.length = 64 ∨ recOf (f ws.length) gen ws.length = none := by
  by_cases c : ws.length = 64
  · exact .inl c
  · right
    rcases h.2.2.2 ws.length (Nat.le_refl _) (by have := h.1; omega) with x | ⟨g', p, a, b, c', d⟩
    · rw [x]; exact none_zero g _ (by have := h.1; omega)
    · rw [d]; exact rec_other c' ⟨a, by omega⟩ g (by omega)
theorem log_recs {s : DSt} {f : Nat → List Int} {gen : Int} {ws : List (List Int)} (h : LogOk f gen ws) (hs : Says s f) : recs s gen ws.length = ws := by
  have hl : (recs s gen ws.length).length = ws.length := recs_len _ _ _
  apply List.ext_getElem?
  intro j
  by_cases c : j < ws.length
  · rw [recs_recsF]
    unfold recsF
    rw [List.getElem?_map, List.getElem?_range c]
    simp only [Option.map_some]
    rw [hs.2.2, log_some h j c, List.getD_eq_getElem?_getD, List.getElem?_eq_getElem c]; rfl
  · rw [List.getElem?_eq_none (by omega), List.getElem?_eq_none (by omega)]
theorem firm_says {s : DSt} {f : Nat → List Int} (h : Firm s f) (hc : Disk.Calm s) : Says s f := ⟨hc, h.1, fun j => by
  show (s.loose ((j : Nat) : Int).toNat).getD (s.sure ((j : Nat) : Int).toNat) = f j
  rw [Int.toNat_natCast, h.2.2 j]; exact h.2.1 j⟩
/-- a slice of the call's own, of slices of bytes that came in -/
def WRows (w0 wr : World) (v : Value) (ws : List (List Int)) : Prop :=
  ∃ SVs, wr.ownsRow w0.heap.size 31 1 v ws.length SVs ∧ ∀ j, j < ws.length → ∃ B c, SVs[j]? = some (.slice B (ws.getD j []).length c) ∧ Rd w0 .u8 B (ws.getD j [])
theorem WRows.nil (w0 w : World) : WRows w0 w (.slice none 0 0) [] := ⟨[], World.ownsRow_nil _ _ _ _, fun j hj => by cases hj⟩
theorem WRows.chg {S : Nat → Prop} {w0 w w' : World} {v : Value} {ws : List (List Int)} (h : WRows w0 w v ws) (hc : Chg S w w') (hS : ∀ g, v.ownBlock = some g → ¬ S g) : WRows w0 w' v ws := by
  obtain ⟨SVs, h1, h2⟩ := h
  exact ⟨SVs, own_chg h1 hc hS, h2⟩
theorem WRows.lt {w0 w : World} {v : Value} {ws : List (List Int)} (h : WRows w0 w v ws) (g : Nat) (hg : v.ownBlock = some g) : g < w.heap.size := by
  obtain ⟨SVs, h1, _⟩ := h
  exact own_lt h1 g hg
theorem WRows.rows {w0 w : World} {v : Value} {ws : List (List Int)} (h : WRows w0 w v ws) (hc : Chg NoB w0 w) : ∃ A c, v = .slice A ws.length c ∧ Log.Rows w A ws := by
  obtain ⟨SVs, hown, h2⟩ := h
  obtain ⟨A, c, hv, hcl⟩ := own_cells hown
  refine ⟨A, c, hv, fun j hj => ?_⟩
  obtain ⟨B, cB, e1, e2⟩ := h2 j hj
  obtain ⟨ad, e, hcell⟩ := hcl j _ e1
  exact ⟨ad, B, cB, e, hcell, e2.chg hc (fun _ _ _ x => x)⟩
theorem WRows.snoc {w0 w' : World} {v' : Value} {ws : List (List Int)} {SVs : List Value} {B : Option Addr} {c : Nat} {p : List Int}
    (hlen : SVs.length = ws.length) (h2 : ∀ j, j < ws.length → ∃ B c, SVs[j]? = some (.slice B (ws.getD j []).length c) ∧ Rd w0 .u8 B (ws.getD j [])) (hp : Rd w0 .u8 B p) (h' : w'.ownsRow w0.heap.size 31 1 v' (ws.length + 1) (SVs ++ [.slice B p.length c])) : WRows w0 w' v' (ws ++ [p]) := by
  refine ⟨_, by rw [List.length_append, List.length_singleton]; exact h', fun j hj => ?_⟩
  rw [List.length_append, List.length_singleton] at hj
  rw [getD_snoc]
  by_cases c1 : j = ws.length
  · subst c1
    rw [if_pos rfl]
    exact ⟨B, c, by rw [List.getElem?_append_right (by omega), hlen]; simp, hp⟩
  · rw [if_neg c1]
    obtain ⟨B', c', e1, e2⟩ := h2 j (by omega)
    exact ⟨B', c', by rw [List.getElem?_append_left (by omega)]; exact e1, e2⟩
theorem save_long (P : Option Addr) (gen : Int) (A : Option Addr) (len c : Nat) (w : World) (h : 960 < len) :
    Calls Try.prog 14 #[.pointer P, .int .u32 gen, .slice A len c] w fun e w' => e = .returned (.int .i64 1) ∧ w = w' := by
  cases P with
  | none =>
    clear h
    go_enter Try.func14, Try.ntmps14
    go_wp2_with fail
    go_ret
    exact ⟨rfl, rfl⟩
  | some ad =>
    go_enter Try.func14, Try.ntmps14
    go_wp2_with fail
    go_ret
    exact ⟨rfl, rfl⟩
theorem jreb_long {w0 w : World} {j d : Nat} {ρ : Nat → Nat} {s : DSt} {gen n : Int} {br : Bool} (h : JL w0 w j d ρ s gen n br) (V : Option Addr) (len c : Nat) (hl : 960 < len) : Calls Try.prog 24 #[.pointer (some ⟨j, 0, none⟩), .slice V len c] w fun e w' => e = .returned (.int .i64 1) ∧ JL w0 w' j d ρ s gen n br ∧ Chg NoB w w' := by
  obtain ⟨c0, c1, c2, c3⟩ := h.2.1.four
  have H := Lib.hid h
  have sb := save_long (some ⟨d, 0, none⟩) (IntKind.u32.wrap (gen + 1)) V len c w.drew hl
  clear h c2 c3
  go_enter Try.func24, Try.ntmps24
  go_wp2_with fail
  go_region_held3 (fun w' => w'.cell? ⟨j, 0, none⟩ = some (.pointer (some ⟨d, 0, none⟩)) ∧ w'.cell? ⟨j, 1, none⟩ = some (.int .u32 gen)) (first | go_keep | exact ⟨c0, c1⟩)
    (first | (go_at_call 14; ((with_reducible refine sb.mono ?_); rintro e w4 ⟨rfl, rfl⟩)))
  go_wp2_with fail
  go_ret
  exact ⟨rfl, H.out.keep ((Chg.refl NoB w).drew), (Chg.refl NoB w).drew⟩
structure ActV where
  base : Bool
  A : Option Addr
  len : Nat
  cap : Nat
  zs : List Int
def actCells (x : ActV) : List Value := [.bool x.base, .slice x.A x.len x.cap]
def ActAt (w : World) (ad : Addr) (i : Nat) (x : ActV) : Prop := (∀ j v, (actCells x)[j]? = some v → w.cell? (ad.add (i * 2 + j)) = some v) ∧ IsRow .u8 w x.A x.len x.cap x.zs
def IsActs (w : World) (A : Option Addr) (len cap : Nat) (X : Nat → ActV) : Prop := (A = none ∧ len = 0 ∧ cap = 0) ∨ ∃ ad, A = some ad ∧ len ≤ cap ∧ cap ≤ maxLen ∧ ∀ i, i < len → ActAt w ad i (X i)
section
variable {H : Type} {enc : TypeId × Value → H} {w : World} {base : Nat} {spare : Nat → Bool} {held : Bool}
theorem act_of (l : List Value) (n : Nat) (hl : l.length = 2) (hsp : ∀ b, spare b = true)
    (h0 : ∃ y, DataW.trod enc Try.prog w base spare held n 4 ((l.drop 0).take (Try.prog.cellsOf 4)) = some y) (h1 : ∃ y, DataW.trod enc Try.prog w base spare held n 31 ((l.drop 1).take (Try.prog.cellsOf 31)) = some y) :
    ∃ x : ActV, l = actCells x ∧ IsRow .u8 w x.A x.len x.cap x.zs := by
  rw [show Try.prog.cellsOf 4 = 1 by kernel_rfl] at h0
  rw [show Try.prog.cellsOf 31 = 1 by kernel_rfl] at h1
  match l, hl with
  | [c0, c1], _ =>
    obtain ⟨y0, h0⟩ := h0
    obtain ⟨y1, h1⟩ := h1
    obtain ⟨b0, e0, -⟩ := DataW.trod_bool Try.underlying4 h0
    obtain ⟨A, le, ca, zs, e4, hr⟩ := row_of_trod (v := c1) Try.underlying31 Try.underlying5 (by kernel_rfl) (by simpa using h1) hsp
    have f0 : c0 = .bool b0 := by simpa using e0
    exact ⟨⟨b0, A, le, ca, zs⟩, by rw [f0, e4]; rfl, hr⟩
theorem acts_open {fuel : Nat} {x : DataW H × List MemPlace} {a : Option Addr} {len cap : Nat} (h : DataW.trod enc Try.prog w base spare held fuel 59 [.slice a len cap] = some x) (hsp : ∀ b, spare b = true) : ∃ X, IsActs w a len cap X := by
  have hc : Try.prog.cellsOf 61 = 2 := by kernel_rfl
  rcases open_elems Try.underlying59 Try.underlying61 h with hcs | ⟨ad, l, c, hcs, hl, hm, hi⟩
  · simp at hcs
    obtain ⟨rfl, rfl, rfl⟩ := hcs
    exact ⟨fun _ => ⟨false, none, 0, 0, []⟩, .inl ⟨rfl, rfl, rfl⟩⟩
  · simp at hcs
    obtain ⟨rfl, rfl, rfl⟩ := hcs
    have each : ∀ i, ∃ x : ActV, i < len → ActAt w ad i x := by
      intro i
      by_cases hil : i < len
      · obtain ⟨cs, n, hcl, hat, hf⟩ := hi i hil
        rw [hc] at hcl hat
        obtain ⟨x, e, hr⟩ := act_of (enc := enc) (w := w) (base := base) (spare := spare) (held := held) cs n hcl hsp (hf 0 _ rfl) (hf 1 _ rfl)
        exact ⟨x, fun _ => ⟨fun j v hj => hat j v (by rw [e]; exact hj), hr⟩⟩
      · exact ⟨⟨false, none, 0, 0, []⟩, fun h => absurd h hil⟩
    exact ⟨fun i => (each i).choose, .inr ⟨ad, rfl, hl, hm, fun i hil => (each i).choose_spec hil⟩⟩
end
theorem ActAt.two {w : World} {ad : Addr} {i : Nat} {x : ActV} (h : ActAt w ad i x) : w.cell? (ad.add (i * 2)) = some (.bool x.base) ∧ w.cell? ⟨(ad.add (i * 2)).block, (ad.add (i * 2)).off + 1, none⟩ = some (.slice x.A x.len x.cap) := by
  have h0 := h.1 0 _ rfl
  have h1 := h.1 1 _ rfl
  have e : ∀ k, 0 < k → ad.add (i * 2 + k) = ⟨(ad.add (i * 2)).block, (ad.add (i * 2)).off + k, none⟩ := fun k hk => by
    unfold Addr.add
    by_cases c : i * 2 = 0
    · have c2 : ¬ (i * 2 + k = 0) := by omega
      rw [if_neg c2, if_pos c]; simp [c]
    · have c2 : ¬ (i * 2 + k = 0) := by omega
      rw [if_neg c2, if_neg c]; simp [Nat.add_assoc]
  rw [e 1 (by decide)] at h1
  exact ⟨h0, h1⟩
end Go.Proofs.Ytmonkoclbcahiaa.Jour
