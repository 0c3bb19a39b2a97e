/- Chapter 4: the law's 'sectors'. -/
import Derived.Test.YtfjldlhboaeemaaLogJ
namespace Go.Proofs.Ytfjldlhboaeemaa.Log
open Go.RowKit Go.Proofs.Ytfjldlhboaeemaa.Hp Go.Proofs.Ytfjldlhboaeemaa.By Go.Proofs.Ytfjldlhboaeemaa.Disk Go.Proofs.Ytfjldlhboaeemaa.Word Go.Proofs.Ytfjldlhboaeemaa.WordP
set_option linter.unusedVariables false
set_option linter.unusedSimpArgs false
/-- whole sectors, in a slice of the call's own -/
def SRows (w : World) (base : Nat) (v : Value) (n : Nat) (f : Nat → List Int) : Prop :=
  ∃ SVs, w.ownsRow base 29 1 v n SVs ∧ ∀ j, j < n → ∃ g V, SVs[j]? = some V ∧ Row w V g (f j) ∧ base ≤ g
theorem SRows.nil (w : World) (base : Nat) (f : Nat → List Int) : SRows w base (.slice none 0 0) 0 f := ⟨[], World.ownsRow_nil _ _ _ _, fun j hj => by omega⟩
theorem SRows.chg {S : Nat → Prop} {w w' : World} {base n : Nat} {v : Value} {f : Nat → List Int} (h : SRows w base v n f) (hc : Chg S w w') (hS : ∀ i, S i → i < base) : SRows w' base v n f := by
  obtain ⟨SVs, h1, h2⟩ := h
  refine ⟨SVs, own_chg h1 hc (fun g hg x => ?_), fun j hj => ?_⟩
  · have := (own_ge h1 g hg).1; have := hS g x; omega
  · obtain ⟨g, V, e1, e2, e3⟩ := h2 j hj
    exact ⟨g, V, e1, e2.chg hc (fun x => by have := hS g x; omega), e3⟩
theorem SRows.add {w w' : World} {base n : Nat} {v v' V : Value} {f : Nat → List Int} {SVs : List Value} {g : Nat}
    (h2 : ∀ j, j < n → ∃ g V, SVs[j]? = some V ∧ Row w V g (f j) ∧ base ≤ g)
    (hown : w.ownsRow base 29 1 v n SVs) (h' : w'.ownsRow base 29 1 v' (n + 1) (SVs ++ [V])) (hc : Chg (fun i => v.ownBlock = some i) w w')
    (hr : Row w V g (f n)) (hg : base ≤ g) : SRows w' base v' (n + 1) f := by
  have hlen : SVs.length = n := by have := hown.1; simpa using this
  have ne : ∀ {g l vv}, Row w vv g l → ¬ (v.ownBlock = some g) := by
    intro g l vv hr x
    obtain ⟨_, _, _, C, _, _, hb1, _⟩ := hr
    obtain ⟨_, C', hb2⟩ := own_ge hown g x
    have := hb1.symm.trans hb2
    simp at this
  refine ⟨_, h', fun j hj => ?_⟩
  by_cases c' : j < n
  · obtain ⟨g, V, e1, e2, e3⟩ := h2 j c'
    exact ⟨g, V, by rw [List.getElem?_append_left (by omega)]; exact e1, e2.chg hc (ne e2), e3⟩
  · obtain rfl : j = n := by omega
    exact ⟨g, V, by rw [List.getElem?_append_right (by omega), hlen]; simp, hr.chg hc (ne hr), hg⟩
def SecB (w0 w : World) (d : Nat) (ρ : Nat → Nat) (s : DSt) (out i : Value) (wr : World) : Prop :=
  ∃ m : Nat, m ≤ 64 ∧ i = .int .i64 m ∧ Chg (Own ρ) w wr ∧ SRows wr w.heap.size out m (fun j => s.get (j : Int)) ∧ DL w0 wr d ρ s
def SecsPost (w0 w : World) (d : Nat) (ρ : Nat → Nat) (s : DSt) (e : Ending) (w' : World) : Prop :=
  ∃ v, e = .returned v ∧ Chg (Own ρ) w w' ∧ SRows w' w.heap.size v 64 (fun j => s.get (j : Int)) ∧ DL w0 w' d ρ s
set_option maxRecDepth 100000 in
set_option maxHeartbeats 2000000 in
theorem sectors_law {w0 w : World} {d : Nat} {ρ : Nat → Nat} {s : DSt} (hcalm : Disk.Calm s) (hn : 64 ≤ s.n) (h : DL w0 w d ρ s) :
    Calls Try.prog 17 #[.pointer (some ⟨d, 0, none⟩)] w (SecsPost w0 w d ρ s) := by
  have hB : SecB w0 w d ρ s (.slice none 0 0) (.int .i64 0) w := ⟨0, by omega, rfl, Chg.refl _ _, SRows.nil _ _ _, h⟩
  have hw0 := h.ch.size
  have hρ : ∀ i, Own ρ i → i < w.heap.size := fun i hi => by
    obtain ⟨_, _, _, _, _, _, _, hp⟩ := h.at_
    by_cases c : i < w.heap.size
    · exact c
    · exact absurd (hp.rz i (by omega)) hi
  clear h
  go_enter Try.func17, Try.ntmps17
  go_wp2_with fail
  go_loopw [3, 4] (fun out i wr => SecB w0 w d ρ s out i wr) (fun _ i wr => (64 - intOf i).toNat)
  case atStart => exact hB
  case round =>
    clear hB
    obtain ⟨m, hm, rfl, hC, hL, hD⟩ := hrel
    by_cases hlt : m < 64
    · have hrd := l_read (m : Int) hD
      have e0 : s.ioE m = 0 := calm_ioE hcalm (by omega) (by omega)
      have eio : s.io m = s := calm_io hcalm m
      have H := Lib.hid (And.intro hC (And.intro hL (And.intro e0 eio)))
      have hsz := hC.size
      clear hC hL hD e0 eio
      go_wp2_with fail
      refine hrd.mono ?_
      rintro e w2 ⟨v, rfl, hD, hc2, hrow, _⟩
      obtain ⟨g, hrow, hgw⟩ := hrow H.out.2.2.1
      rw [H.out.2.2.1]
      rw [H.out.2.2.2] at hD
      have hL2 := H.out.2.1.chg hc2 hρ
      obtain ⟨SVs, hown, hels⟩ := hL2
      have hbase : w.heap.size ≤ w2.heap.size := by have := hc2.size; omega
      have HR := Lib.hid (And.intro hrow (And.intro hc2 hD))
      obtain ⟨_, _, cp, Cq, rfl, _⟩ := hrow
      have fin : ∀ v' w4, w4.ownsRow w.heap.size 29 1 v' (m + 1) (SVs ++ [.slice (some ⟨g, 0, none⟩) 64 cp]) → Chg (fun i => u3.ownBlock = some i) w2 w4 → SecB w0 w d ρ s v' (.int .i64 ((m : Int) + 1)) w4 := by
        intro v' w4 h4 hc4
        have nO : ∀ i, u3.ownBlock = some i → w.heap.size ≤ i := fun i hi => (own_ge hown i hi).1
        have hd3 := HR.out.2.2
        have hDD : DL w0 w4 d ρ s := by
          cases ho : u3.ownBlock with
          | none => exact hd3.keep (hc4.mono (fun i _ x => by rw [ho] at x; cases x))
          | some g' =>
            have hg' := nO g' ho
            refine hd3.side (g := g') (hc4.mono (fun i _ x => by rw [ho] at x; exact (Option.some.inj x).symm)) ?_ (by omega)
            by_cases c : ρ g' = 0
            · exact c
            · have := hρ g' c; omega
        exact ⟨m + 1, by omega, rfl, (H.out.1.trans HR.out.2.1 (fun _ _ x => x)).trans hc4 (fun i hi x => by have := nO i x; omega), SRows.add hels hown h4 hc4 HR.out.1 (by omega), hDD⟩
      have FI := Lib.hid fin
      clear fin hrd H hc2 hels HR hD
      go_wp2_with (first | (at_builtin; go_loud (refine append_own2 (w := w2) (base := w.heap.size) rfl (.tmp 17) (.tmp 19) 22 29 rfl (.slice none 0 0) 24 Try.underlying22 info24 rfl u3 m SVs (by rfl) hbase hown (.slice (some ⟨g, 0, none⟩) 64 cp) 29 (by rfl) rfl (by omega) (by omega) ?_); intro v' w4 hown' hCo))
      exact ⟨FI.out v' w4 hown' hCo, by simp [intOf]; omega⟩
    · obtain rfl : m = 64 := by omega
      have fin : ∀ v, SRows wr w.heap.size v 64 (fun j => s.get (j : Int)) → SecsPost w0 w d ρ s (.returned v) wr := fun v hL => ⟨v, rfl, hC, hL, hD⟩
      have F := fin _ hL
      clear fin hC hL hD
      go_wp2_with fail
      go_ret
      exact F
end Go.Proofs.Ytfjldlhboaeemaa.Log
