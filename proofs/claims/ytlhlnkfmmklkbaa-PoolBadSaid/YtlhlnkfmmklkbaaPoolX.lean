/- The program's pool beside the document's: an act, to both. -/
import Derived.Test.YtlhlnkfmmklkbaaPoolW
import Derived.Deep.RegionWith
namespace Go.Proofs.Ytlhlnkfmmklkbaa.Pool
open Go.RowKit Go.Proofs.Ytlhlnkfmmklkbaa.Hp Go.Proofs.Ytlhlnkfmmklkbaa.Runs
set_option linter.unusedVariables false
set_option linter.unusedSimpArgs false
/-- both pools, in one state -/
structure Both (w0 w : World) (p b bi v : Nat) (S T : PS) : Prop where
  pl : PL w0 w p b bi S
  rr : RR w v T
  lv : w0.heap.size ≤ v
  n1 : v ≠ p
  n2 : v ≠ b
  n3 : v ≠ bi
theorem Both.keep {w0 w w' : World} {p b bi v : Nat} {S T : PS} (h : Both w0 w p b bi v S T) (hc : Chg NoB w w') : Both w0 w' p b bi v S T :=
  ⟨h.pl.keep hc, h.rr.chg hc (fun x => x), h.lv, h.n1, h.n2, h.n3⟩
theorem Both.goR {w0 w w' : World} {p b bi v : Nat} {S T T' : PS} (h : Both w0 w p b bi v S T) (hr : RR w' v T') (hc : Chg (· = v) w w') : Both w0 w' p b bi v S T' :=
  ⟨⟨h.pl.at_.chg hc (fun e => h.n1 e.symm) (fun e => h.n2 e.symm) (fun e => h.n3 e.symm), h.pl.ch.trans hc (fun i hi hh => by have := h.lv; have := (show i = v from hh); omega), h.pl.lp, h.pl.lb, h.pl.li⟩, hr, h.lv, h.n1, h.n2, h.n3⟩
theorem Both.goP {w0 w w' : World} {p b bi v : Nat} {S S' T : PS} (h : Both w0 w p b bi v S T) (hp : PoolAt w' p b bi S'.U S'.Z S'.I) (hc : Chg (fun i => i = p ∨ i = bi) w w') : Both w0 w' p b bi v S' T :=
  ⟨h.pl.go hp hc, h.rr.chg hc (fun e => e.elim h.n1 h.n3), h.lv, h.n1, h.n2, h.n3⟩
/-- what a call answers, and both pools behind it; one more world between -/
def AnsB (w0 w : World) (p b bi v : Nat) (x : Value) (S T : PS) (e : Ending) (w' : World) : Prop := e = .returned x ∧ Both w0 w' p b bi v S T ∧ Chg (fun i => i = p ∨ i = bi ∨ i = v) w w'
section
variable {w0 w : World} {p b bi v : Nat} {S T : PS}
theorem bp_online (s z : Int) (A : Option Addr) (c : Nat) (bad : List Int) (h : Both w0 w p b bi v S T) (hF : Rd w .i64 A bad) (ho : 0 < bad.length → Off A (fun i => w0.heap.size ≤ i)) :
    Calls Try.prog 24 #[.pointer (some ⟨p, 0, none⟩), .int .i64 s, .int .i64 z, .slice A bad.length c] w (AnsB w0 w p b bi v (.int .i64 (S.onE s z)) (S.online s z bad) T) := by
  refine (online_any p b bi S.U S.Z S.I s z A c bad w h.pl.at_ hF (fun hh ad e x => ho hh ad e (x.elim (fun y => by rw [y]; exact h.pl.lp) (fun y => by rw [y]; exact h.pl.li)))).mono ?_
  intro e w1 hp
  rcases hp with ⟨g, rfl, rfl⟩ | ⟨g, hz, rfl, rfl⟩ | ⟨g, hz, rfl, h1, h2⟩
  · have E : S.onE s z = 1 := if_neg g
    refine ⟨by rw [E], ?_, Chg.refl _ _⟩
    unfold PS.online; rw [E, if_neg (by decide)]; exact h
  · have E : S.onE s z = 3 := by unfold PS.onE; rw [if_pos g, if_neg hz]
    refine ⟨by rw [E], ?_, Chg.refl _ _⟩
    unfold PS.online; rw [E, if_neg (by decide)]; exact h
  · have E : S.onE s z = 0 := by unfold PS.onE; rw [if_pos g, if_pos hz]
    refine ⟨by rw [E], ?_, h2.mono (fun i _ hh => hh.elim .inl (fun x => .inr (.inl x)))⟩
    unfold PS.online; rw [E, if_pos rfl]; exact h.goP h1 h2
theorem br_online (s z : Int) (A : Option Addr) (c : Nat) (bad : List Int) (h : Both w0 w p b bi v S T) (hF : Rd w .i64 A bad) (ho : 0 < bad.length → Off A (fun i => w0.heap.size ≤ i)) :
    Calls Try.prog 50 #[.pointer (some ⟨v, 0, none⟩), .int .i64 s, .int .i64 z, .slice A bad.length c] w (AnsB w0 w p b bi v (.int .i64 (T.onE s z)) S (T.online s z bad)) := by
  by_cases g : (0 ≤ s ∧ s < 32) ∧ (z = 2 ∨ z = 3)
  · obtain ⟨t, rfl⟩ := Int.eq_ofNat_of_zero_le g.1.1
    have ht : t < 32 := by have := g.1.2; omega
    by_cases hz : T.Z t = 0
    · refine (ron_ok v T t ht z g.2 A c bad w h.rr hz hF (fun hh ad e x => ho hh ad e (by rw [show ad.block = v from x]; exact h.lv))).mono ?_
      rintro e w1 ⟨rfl, h1, h2⟩
      have E : T.onE t z = 0 := by unfold PS.onE; rw [if_pos g, Int.toNat_natCast, if_pos hz]
      refine ⟨by rw [E], ?_, h2.mono (fun i _ hh => .inr (.inr hh))⟩
      unfold PS.online; rw [E, if_pos rfl]; exact h.goR h1 h2
    · refine (ron_there v T t ht z g.2 _ w h.rr hz).mono ?_
      rintro e w1 ⟨rfl, rfl⟩
      have E : T.onE t z = 3 := by unfold PS.onE; rw [if_pos g, Int.toNat_natCast, if_neg hz]
      refine ⟨by rw [E], ?_, Chg.refl _ _⟩
      unfold PS.online; rw [E, if_neg (by decide)]; exact h
  · refine (ron_bad v s z _ w g).mono ?_
    rintro e w1 ⟨rfl, rfl⟩
    have E : T.onE s z = 1 := if_neg g
    refine ⟨by rw [E], ?_, Chg.refl _ _⟩
    unfold PS.online; rw [E, if_neg (by decide)]; exact h
theorem bp_offline (s : Int) (h : Both w0 w p b bi v S T) :
    Calls Try.prog 32 #[.pointer (some ⟨p, 0, none⟩), .int .i64 s] w (AnsB w0 w p b bi v (.int .i64 (S.offE s)) (S.offline s) T) := by
  refine (offline_any p b bi S.U S.Z S.I s w h.pl.at_).mono ?_
  intro e w1 hp
  rcases hp with ⟨g, rfl, rfl⟩ | ⟨g, hz, rfl, rfl⟩ | ⟨g, hz, hn, rfl, rfl⟩ | ⟨g, hz, hn, rfl, h1, h2⟩
  · have E : S.offE s = 1 := if_neg g
    refine ⟨by rw [E], ?_, Chg.refl _ _⟩
    unfold PS.offline; rw [E, if_neg (by decide)]; exact h
  · have E : S.offE s = 2 := by unfold PS.offE; rw [if_pos g, if_pos hz]
    refine ⟨by rw [E], ?_, Chg.refl _ _⟩
    unfold PS.offline; rw [E, if_neg (by decide)]; exact h
  · have E : S.offE s = 5 := by unfold PS.offE; rw [if_pos g, if_neg hz, if_neg (show ¬ S.idle s.toNat from hn)]
    refine ⟨by rw [E], ?_, Chg.refl _ _⟩
    unfold PS.offline; rw [E, if_neg (by decide)]; exact h
  · have E : S.offE s = 0 := by unfold PS.offE; rw [if_pos g, if_neg hz, if_pos (show S.idle s.toNat from hn)]
    refine ⟨by rw [E], ?_, h2.mono (fun i _ hh => hh.elim .inl (fun x => .inr (.inl x)))⟩
    unfold PS.offline; rw [E, if_pos rfl]; exact h.goP h1 h2
theorem br_offline (s : Int) (h : Both w0 w p b bi v S T) :
    Calls Try.prog 51 #[.pointer (some ⟨v, 0, none⟩), .int .i64 s] w (AnsB w0 w p b bi v (.int .i64 (T.offE s)) S (T.offline s)) := by
  by_cases g : 0 ≤ s ∧ s < 32
  · obtain ⟨t, rfl⟩ := Int.eq_ofNat_of_zero_le g.1
    have ht : t < 32 := by have := g.2; omega
    by_cases hz : T.Z t = 0
    · refine (roff_none v T t ht w h.rr hz).mono ?_
      rintro e w1 ⟨rfl, rfl⟩
      have E : T.offE t = 2 := by unfold PS.offE; rw [if_pos g, Int.toNat_natCast, if_pos hz]
      refine ⟨by rw [E], ?_, Chg.refl _ _⟩
      unfold PS.offline; rw [E, if_neg (by decide)]; exact h
    · refine (roff_on v T t ht w h.rr hz).mono ?_
      intro e w1 hp
      rcases hp with ⟨hn, rfl, rfl⟩ | ⟨hn, rfl, h1, h2⟩
      · have E : T.offE t = 5 := by unfold PS.offE; rw [if_pos g, Int.toNat_natCast, if_neg hz, if_neg hn]
        refine ⟨by rw [E], ?_, Chg.refl _ _⟩
        unfold PS.offline; rw [E, if_neg (by decide)]; exact h
      · have E : T.offE t = 0 := by unfold PS.offE; rw [if_pos g, Int.toNat_natCast, if_neg hz, if_pos hn]
        refine ⟨by rw [E], ?_, h2.mono (fun i _ hh => .inr (.inr hh))⟩
        unfold PS.offline; rw [E, if_pos rfl]; exact h.goR h1 h2
  · refine (roff_bad v s w g).mono ?_
    rintro e w1 ⟨rfl, rfl⟩
    have E : T.offE s = 1 := if_neg g
    refine ⟨by rw [E], ?_, Chg.refl _ _⟩
    unfold PS.offline; rw [E, if_neg (by decide)]; exact h
theorem bp_alloc (u o : Int) (mov : Bool) (h : Both w0 w p b bi v S T) :
    Calls Try.prog 25 #[.pointer (some ⟨p, 0, none⟩), .int .i64 u, .int .i64 o, .bool mov] w (AnsB w0 w p b bi v (.tuple #[.int .i64 (S.allocF u o mov), .int .i64 (S.allocE u o mov)]) (S.alloc u o mov) T) := by
  refine (alloc_any p b bi S.U S.Z S.I u o mov w h.pl.at_).mono ?_
  intro e w1 hp
  rcases hp with ⟨g, rfl, rfl⟩ | ⟨g, f, ok, hs, rfl, h1, h2⟩
  · have E : S.allocE u o mov = 1 := if_neg g
    have F : S.allocF u o mov = 0 := if_neg g
    refine ⟨by rw [E, F]; rfl, ?_, Chg.refl _ _⟩
    unfold PS.alloc; rw [E, if_neg (by decide)]; exact h
  · obtain ⟨hp, hz⟩ := pick_of S o mov f ok hs
    have E : S.allocE u o mov = if ok then 0 else 4 := by
      unfold PS.allocE; rw [if_pos g, hp]
      cases ok <;> rfl
    have F : S.allocF u o mov = f := by
      unfold PS.allocF; rw [if_pos g, hp]
      cases ok with
      | false => exact (hz rfl).symm
      | true => rfl
    refine ⟨by rw [E, F], ?_, h2.mono (fun i _ hh => hh.elim .inl (fun x => .inr (.inl x)))⟩
    unfold PS.alloc
    rw [E, F]
    cases ok with
    | false =>
      rw [if_neg (by decide)]
      rw [if_neg (by decide), allocU_zero] at h1
      exact h.goP h1 h2
    | true =>
      rw [if_pos rfl]
      rw [if_pos rfl] at h1
      exact h.goP h1 h2
theorem br_alloc (u o : Int) (mov : Bool) (h : Both w0 w p b bi v S T) :
    Calls Try.prog 52 #[.pointer (some ⟨v, 0, none⟩), .int .i64 u, .int .i64 o, .bool mov] w (AnsB w0 w p b bi v (.tuple #[.int .i64 (T.allocF u o mov), .int .i64 (T.allocE u o mov)]) S (T.alloc u o mov)) := by
  by_cases g : ArgOk u o
  · obtain ⟨a, rfl⟩ := Int.eq_ofNat_of_zero_le g.2.2.1
    have ho : a ≤ 5 := by have := g.2.2.2; omega
    refine (ralloc_ok v T u g.1 g.2.1 a ho mov w h.rr).mono ?_
    rintro e w1 ⟨f, ok, hs, rfl, h1, h2⟩
    obtain ⟨hp, hz⟩ := pick_of T a mov f ok hs
    have E : T.allocE u a mov = if ok then 0 else 4 := by
      unfold PS.allocE; rw [if_pos g, hp]
      cases ok <;> rfl
    have F : T.allocF u a mov = f := by
      unfold PS.allocF; rw [if_pos g, hp]
      cases ok with
      | false => exact (hz rfl).symm
      | true => rfl
    refine ⟨by rw [E, F], ?_, h2.mono (fun i _ hh => .inr (.inr hh))⟩
    unfold PS.alloc
    rw [E, F]
    cases ok with
    | false =>
      rw [if_neg (by decide)]
      rw [if_neg (by decide), allocU_zero] at h1
      exact h.goR h1 h2
    | true =>
      rw [if_pos rfl]
      rw [if_pos rfl] at h1
      exact h.goR h1 h2
  · refine (ralloc_bad v u o mov w g).mono ?_
    rintro e w1 ⟨rfl, rfl⟩
    have E : T.allocE u o mov = 1 := if_neg g
    have F : T.allocF u o mov = 0 := if_neg g
    refine ⟨by rw [E, F]; rfl, ?_, Chg.refl _ _⟩
    unfold PS.alloc; rw [E, if_neg (by decide)]; exact h
end
end Go.Proofs.Ytlhlnkfmmklkbaa.Pool
