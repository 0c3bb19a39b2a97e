/- Chapter 6: JournalPlays. -/
import Derived.Test.YtmonkoclbcahiaaJourF
namespace Go.Proofs.Ytmonkoclbcahiaa.Jour
open Go.RowKit Go.Proofs.Ytmonkoclbcahiaa.Hp Go.Proofs.Ytmonkoclbcahiaa.By Go.Proofs.Ytmonkoclbcahiaa.Disk Go.Proofs.Ytmonkoclbcahiaa.Word Go.Proofs.Ytmonkoclbcahiaa.WordP Go.Proofs.Ytmonkoclbcahiaa.Log Go.Proofs.Ytmonkoclbcahiaa.Slot
set_option linter.unusedVariables false
set_option linter.unusedSimpArgs false
def InV (w : World) (v : Value) (L : List Int) : Prop := ∃ A c, v = .slice A L.length c ∧ Rd w .u8 A L
/-- all that is known at a round's start -/
def JpS (w0 wr : World) (j d : Nat) (bv lv : Value) (m : Nat) (ρ : Nat → Nat) (s : DSt) (f : Nat → List Int) (gen : Int) (bs : List Int) (ws : List (List Int)) : Prop :=
  JL w0 wr j d ρ s gen ws.length false ∧ (Firm s f ∧ LenF f) ∧ Disk.Calm s ∧ Two f gen bs ∧ LogOk f gen ws ∧ gen ≤ m ∧ InV w0 bv bs ∧ WRows w0 wr lv ws ∧ ∀ g, lv.ownBlock = some g → ρ g = 0 ∧ g ≠ j
def JpB (w0 : World) (j d N : Nat) (bv lv i : Value) (wr : World) : Prop :=
  ∃ (m : Nat) (ρ : Nat → Nat) (s : DSt) (f : Nat → List Int) (gen : Int) (bs : List Int) (ws : List (List Int)), m ≤ N ∧ i = .int .i64 m ∧ JpS w0 wr j d bv lv m ρ s f gen bs ws
theorem JpS.keep {w0 wr w' : World} {j d : Nat} {bv lv : Value} {m : Nat} {ρ : Nat → Nat} {s : DSt} {f : Nat → List Int} {gen : Int} {bs : List Int} {ws : List (List Int)} (h : JpS w0 wr j d bv lv m ρ s f gen bs ws) (hc : Chg NoB wr w') : JpS w0 w' j d bv lv m ρ s f gen bs ws := by
  obtain ⟨a, b, c, e, f1, g, h1, h2, h3⟩ := h
  exact ⟨a.keep hc, b, c, e, f1, g, h1, h2.chg hc (fun _ _ x => x), h3⟩
theorem JpS.up {w0 wr : World} {j d : Nat} {bv lv : Value} {m : Nat} {ρ : Nat → Nat} {s : DSt} {f : Nat → List Int} {gen : Int} {bs : List Int} {ws : List (List Int)} (h : JpS w0 wr j d bv lv m ρ s f gen bs ws) : JpS w0 wr j d bv lv (m + 1) ρ s f gen bs ws := by
  obtain ⟨a, b, c, e, f1, g, h1, h2, h3⟩ := h
  exact ⟨a, b, c, e, f1, by push_cast; omega, h1, h2, h3⟩
/-- a Rebase, played -/
def RebTo (w0 w : World) (j d : Nat) (lv : Value) (m : Nat) (ρ : Nat → Nat) (gen : Int) (ws : List (List Int)) (V : Value) (l : List Int) (e : Ending) (w' : World) : Prop :=
  e = .returned (.int .i64 0) ∧ ∃ ρ' s' f', JpS w0 w' j d V (.slice none 0 0) (m + 1) ρ' s' f' (gen + 1) l [] ∧ Chg (fun i => Own ρ i ∨ i = j) w w'
theorem reb_play {w0 wr : World} {j d : Nat} {bv lv : Value} {m : Nat} {ρ : Nat → Nat} {s : DSt} {f : Nat → List Int} {gen : Int} {bs : List Int} {ws : List (List Int)} (h : JpS w0 wr j d bv lv m ρ s f gen bs ws) (hm : m ≤ 1000) (A : Option Addr) (c : Nat) (l : List Int) (hl : l.length ≤ 960) (hr : Rd w0 .u8 A l) (hcap : l.length ≤ c) (hb : Bytes l) :
    Calls Try.prog 24 #[.pointer (some ⟨j, 0, none⟩), .slice A l.length c] wr (RebTo w0 wr j d lv m ρ gen ws (.slice A l.length c) l) := by
  obtain ⟨hJ, hF, hc, hT, hL, hg, _, _, _⟩ := h
  have g0 := hT.1
  refine (jreb_any hJ hF.1.1 A c l g0 (by omega) hl (hr.chg hJ.1.ch (fun _ _ _ x => x)) (fun hp ad e x => by
    have q1 := hr.lt hp ad e
    have q2 := hJ.1.nw _ x
    omega) hcap hb).mono ?_
  rintro e w' ⟨E, s', rfl, hS, ρ', hJ', hC, _⟩
  obtain ⟨rfl, hs', _⟩ := save_calm (firm_says hF.1 hc) hl hS
  rw [if_pos rfl, if_pos rfl, if_pos rfl] at hJ'
  have hf := (saves_firm hF.1 hF.2 hl hS).1 rfl
  exact ⟨rfl, ρ', s', _, ⟨hJ', ⟨hf, lenF_saved hF.2 _ _⟩, hs'.1, two_next hT (by omega) hl, log_next g0 hL (fun k hk => saved_low f (gen + 1) l k hk), by push_cast; omega, ⟨A, c, rfl, hr⟩, WRows.nil _ _, fun g hg => by simp [Value.ownBlock] at hg⟩, hC⟩
/-- an Append, played -/
def AppTo (w0 w : World) (j d : Nat) (bv : Value) (m : Nat) (ρ : Nat → Nat) (gen : Int) (bs : List Int) (ws : List (List Int)) (l : List Int) (e : Ending) (w' : World) : Prop :=
  e = .returned (.int .i64 0) ∧ ∃ ρ' s' f', (JL w0 w' j d ρ' s' gen (ws.length + 1) false ∧ (Firm s' f' ∧ LenF f') ∧ Disk.Calm s' ∧ Two f' gen bs ∧ LogOk f' gen (ws ++ [l])) ∧ Chg (fun i => Own ρ i ∨ i = j) w w' ∧ ∀ i, i < w.heap.size → ρ i = 0 → ρ' i = 0
theorem app_play {w0 wr : World} {j d : Nat} {bv lv : Value} {m : Nat} {ρ : Nat → Nat} {s : DSt} {f : Nat → List Int} {gen : Int} {bs : List Int} {ws : List (List Int)} (h : JpS w0 wr j d bv lv m ρ s f gen bs ws) (hm : m ≤ 1000) (A : Option Addr) (c : Nat) (l : List Int) (hl : l.length ≤ 50) (hw : ws.length < 64) (hr : Rd w0 .u8 A l) (hb : Bytes l) :
    Calls Try.prog 23 #[.pointer (some ⟨j, 0, none⟩), .slice A l.length c] wr (AppTo w0 wr j d bv m ρ gen bs ws l) := by
  obtain ⟨hJ, hF, hc, hT, hL, hg, _, _, _⟩ := h
  have g0 := hT.1
  have hsl := secL_len gen (ws.length : Int) l hl
  have hs := firm_says hF.1 hc
  obtain ⟨a1, a2⟩ := says_app hs ws.length (by omega) (secL gen ws.length l) hsl
  have a3 := app_firmly hs ws.length (by omega) (secL gen ws.length l) hsl
  refine (japp_any hJ A c l g0 (by omega) (by omega) (by omega) hl (hr.chg hJ.1.ch (fun _ _ _ x => x)) hb).mono ?_
  rintro e w' ⟨rfl, ρ', hJ', hC, hz⟩
  rw [a1] at hJ' ⊢
  rw [if_pos rfl] at hJ'
  refine ⟨rfl, ρ', _, _, ⟨hJ', ⟨a3, fun k => ?_⟩, a2.1, two_congr hT (fun k k1 k2 => if_neg (by omega)), log_app hL l hl hw⟩, hC, hz⟩
  show (if k = ws.length then secL gen ws.length l else f k).length = 64
  by_cases ck : k = ws.length
  · rw [if_pos ck]; exact hsl
  · rw [if_neg ck]; exact hF.2 k
end Go.Proofs.Ytmonkoclbcahiaa.Jour
