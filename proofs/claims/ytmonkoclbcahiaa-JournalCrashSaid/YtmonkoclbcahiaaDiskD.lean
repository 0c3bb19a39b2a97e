/- A disk: New, Fail. -/
import Derived.Test.YtmonkoclbcahiaaDiskC
import Derived.Deep.AppendLies
import Derived.Deep.RegionLaw
namespace Go.Proofs.Ytmonkoclbcahiaa.Disk
open Go.RowKit Go.Proofs.Ytmonkoclbcahiaa.Hp Go.Proofs.Ytmonkoclbcahiaa.By
set_option linter.unusedVariables false
set_option linter.unusedSimpArgs false
def DSt.new (n : Nat) : DSt := ⟨n, fun _ => List.replicate 64 0, fun _ => none, ⟨0, 0, -1, false⟩⟩
def DNewPost (n : Nat) (w : World) (e : Ending) (w' : World) : Prop :=
  ∃ d ρ, e = .returned (.pointer (some ⟨d, 0, none⟩)) ∧ DiskAt w' d ρ (DSt.new n) ∧ Chg NoB w w' ∧ ∀ i, ρ i ≠ 0 → w.heap.size ≤ i
theorem num0_ok : DN.ok ⟨0, 0, -1, false⟩ := ⟨⟨by decide, by decide⟩, ⟨by decide, by decide⟩, ⟨by decide, by decide⟩⟩
theorem infoS : (Try.prog.info? 31).map (fun i => (i.zero, i.size, i.bytes)) = some (some (.slice none 0 0), 1, 24) := by kernel_rfl
/-- what has been made behind k rounds: the row of slices, each over its own block -/
structure Made (w0 w : World) (d mb : Nat) (k : Nat) (v : Value) (SV : Nat → Value) (SB : Nat → Nat) : Prop where
  b : DB w d v (.map (some mb)) ⟨0, 0, -1, false⟩
  own : w.ownsRow w0.heap.size 31 1 v k ((List.range k).map SV)
  rows : ∀ i, i < k → Row w (SV i) (SB i) (List.replicate 64 0)
  mp : MapAt w mb (fun _ => none)
  inj : ∀ i j, i < k → j < k → SB i = SB j → i = j
  nd : ∀ i, i < k → SB i ≠ d ∧ SB i ≠ mb ∧ w0.heap.size ≤ SB i
  dm : d ≠ mb
  nv : ∀ g, v.ownBlock = some g → g ≠ d ∧ g ≠ mb ∧ ∀ i, i < k → SB i ≠ g
  ch : Chg NoB w0 w
  ld : w0.heap.size ≤ d
  lm : w0.heap.size ≤ mb
theorem Made.disk {w0 w : World} {d mb k : Nat} {v : Value} {SV : Nat → Value} {SB : Nat → Nat} (h : Made w0 w d mb k v SV SB) (h1 : 1 ≤ k) (h2 : k ≤ 4096) : ∃ ρ, DiskAt w d ρ (DSt.new k) ∧ ∀ i, ρ i ≠ 0 → w0.heap.size ≤ i := by
  rcases h.own.2 with ⟨_, e⟩ | ⟨g, cap, cur, hv, hbg, hh, hc1, hc2, hc3, ht⟩
  · have e' : k = 0 := by simpa using e
    omega
  · have hnv := h.nv g (by rw [hv]; rfl)
    let ρ : Nat → Nat := fun i => if i = d then 1 else if i = g then 2 else if i = mb then 3 else if hx : ∃ j, j < k ∧ SB j = i then 4 + 2 * hx.choose else 0
    have rs : ∀ i, i < k → ρ (SB i) = 4 + 2 * i := by
      intro i hi
      have hx : ∃ j, j < k ∧ SB j = SB i := ⟨i, hi, rfl⟩
      show (if SB i = d then 1 else if SB i = g then 2 else if SB i = mb then 3 else if hx : ∃ j, j < k ∧ SB j = SB i then 4 + 2 * hx.choose else 0) = _
      rw [if_neg (h.nd i hi).1, if_neg (hnv.2.2 i hi), if_neg (h.nd i hi).2.1, dif_pos hx]
      have := h.inj _ _ hx.choose_spec.1 hi hx.choose_spec.2
      omega
    have big : ∀ i, ρ i ≠ 0 → w0.heap.size ≤ i ∧ i < w.heap.size := by
      intro i hi
      have hi' : (if i = d then 1 else if i = g then 2 else if i = mb then 3 else if hx : ∃ j, j < k ∧ SB j = i then 4 + 2 * hx.choose else 0) ≠ 0 := hi
      by_cases e1 : i = d
      · rw [e1]; exact ⟨h.ld, blt h.b⟩
      by_cases e2 : i = g
      · rw [e2]; exact ⟨hbg, blt hh⟩
      by_cases e3 : i = mb
      · rw [e3]; exact ⟨h.lm, h.mp.lt⟩
      rw [if_neg e1, if_neg e2, if_neg e3] at hi'
      by_cases hx : ∃ j, j < k ∧ SB j = i
      · obtain ⟨j, hj, rfl⟩ := hx
        exact ⟨(h.nd j hj).2.2, (h.rows j hj).lt⟩
      · rw [dif_neg hx] at hi'; exact absurd rfl hi'
    refine ⟨ρ, ⟨g, mb, cap, SV, SB, fun _ => .slice none 0 0, fun _ => 0, ?_⟩, fun i hi => (big i hi).1⟩
    refine ⟨?_, ?_, h1, h2, hc1, ⟨cur, hh, fun i hi => ?_⟩, h.rows, ?_, (fun _ _ x => by cases x), ?_, ?_, ?_, rs, (fun _ _ x => by cases x), fun i hi => ?_⟩
    · have := h.b; rw [hv] at this; exact this
    · exact num0_ok
    · have hi' : i < k := hi
      have e : (cur.toList.take (k * 1))[i]? = ((List.range k).map SV)[i]? := by rw [ht]
      rw [List.getElem?_take, if_pos (by omega), Array.getElem?_toList] at e
      rw [e]; simp [hi']
    · have : looseM (DSt.new k) (fun _ => .slice none 0 0) = fun _ => none := by
        funext i; unfold looseM DSt.new; simp
      rw [this]; exact h.mp
    · exact if_pos rfl
    · show (if g = d then 1 else if g = g then 2 else _) = 2
      rw [if_neg hnv.1, if_pos rfl]
    · show (if mb = d then 1 else if mb = g then 2 else if mb = mb then 3 else _) = 3
      rw [if_neg (fun x => h.dm x.symm), if_neg (fun x => hnv.2.1 x.symm), if_pos rfl]
    · by_cases c : ρ i = 0
      · exact c
      · have := (big i c).2; omega
def NRel (w0 : World) (d mb n : Nat) (i : Value) (wr : World) : Prop := ∃ k v SV SB, k ≤ n ∧ i = .int .i64 (k : Nat) ∧ Made w0 wr d mb k v SV SB
theorem own_lt {w : World} {base n : Nat} {e : TypeId} {v : Value} {xs : List Value} (h : w.ownsRow base e 1 v n xs) (g : Nat) (hg : v.ownBlock = some g) : g < w.heap.size := by
  rcases h.2 with ⟨rfl, _⟩ | ⟨g', cap, cur, rfl, hb, hh, _⟩
  · simp [Value.ownBlock] at hg
  · have : g' = g := by simpa [Value.ownBlock] using hg
    subst this; exact blt hh
theorem own_chg {S : Nat → Prop} {w w' : World} {base n : Nat} {e : TypeId} {v : Value} {xs : List Value} (h : w.ownsRow base e 1 v n xs) (hc : Chg S w w') (hn : ∀ g, v.ownBlock = some g → ¬ S g) : w'.ownsRow base e 1 v n xs := by
  refine ⟨h.1, ?_⟩
  rcases h.2 with h2 | ⟨g, cap, cur, hv, hb, hh, r⟩
  · exact .inl h2
  · exact .inr ⟨g, cap, cur, hv, hb, hc.blk hh (hn g (by rw [hv]; rfl)), r⟩
theorem zero_row (n j : Nat) (hj : j < n) : (Array.replicate n (Value.int .u8 0))[j]? = some (.int .u8 ((List.replicate n 0).getD j 0)) := by
  rw [Array.getElem?_replicate, if_pos hj, List.getD_eq_getElem?_getD, List.getElem?_replicate, if_pos hj]; rfl
/-- one sector more -/
theorem Made.next {w0 w w1 w2 w3 : World} {d mb k : Nat} {v : Value} {SV : Nat → Value} {SB : Nat → Nat} (h : Made w0 w d mb k v SV SB)
    (hw1 : w1 = ((w.alloc (.cells (Array.replicate 64 (.int .u8 0)) 5)).alloc (.cells #[.slice (some ⟨w.heap.size, 0, none⟩) 64 64] 31)).drew)
    (g cap : Nat) (hown : w2.ownsRow w0.heap.size 31 1 (.slice (some ⟨g, 0, none⟩) (k + 1) cap) (k + 1) ((List.range k).map SV ++ [.slice (some ⟨w.heap.size, 0, none⟩) 64 64])) (hgr : w1.grownBy w2 v.ownBlock) (hg : v.ownBlock = some g ∨ g = w.heap.size + 2)
    (hw3 : w3 = w2.setCell ⟨d, 0, none⟩ (.slice (some ⟨g, 0, none⟩) (k + 1) cap)) :
    Made w0 w3 d mb (k + 1) (.slice (some ⟨g, 0, none⟩) (k + 1) cap) (fun i => if i = k then .slice (some ⟨w.heap.size, 0, none⟩) 64 64 else SV i) (fun i => if i = k then w.heap.size else SB i) := by
  have hz := h.ch.size
  have ld : d < w.heap.size := blt h.b
  have lm := h.mp.lt
  have lb : ∀ i, i < k → SB i < w.heap.size := fun i hi => (h.rows i hi).lt
  have c1 : Chg NoB w w1 := by rw [hw1]; exact (((Chg.refl NoB w).alloc _).alloc _).drew
  have c2 : Chg (fun i => v.ownBlock = some i) w1 w2 := Chg.of_grownBy hgr (fun j hj => .inl hj)
  have c3 : Chg (· = d) w2 w3 := by rw [hw3]; exact chg1 _ _ _ _
  have no : ∀ i, v.ownBlock = some i → i ≠ d ∧ i ≠ mb ∧ ∀ j, j < k → SB j ≠ i := h.nv
  have s1 : w1.heap.size = w.heap.size + 2 := by rw [hw1]; simp [World.drew]
  have new : Blk w1 w.heap.size (Array.replicate 64 (.int .u8 0)) 5 := by rw [hw1]; exact balloc (bnew w _) _
  have new2 : Blk w2 w.heap.size (Array.replicate 64 (.int .u8 0)) 5 := c2.blk new (fun x => by
    have := own_lt h.own _ x; omega)
  have gd : g ≠ d := by
    rcases hg with hg | hg
    · exact (no g hg).1
    · omega
  have gm : g ≠ mb := by
    rcases hg with hg | hg
    · exact (no g hg).2.1
    · omega
  have gs : ∀ i, i < k → SB i ≠ g := by
    intro i hi
    rcases hg with hg | hg
    · exact (no g hg).2.2 i hi
    · have := lb i hi; omega
  have gw : g ≠ w.heap.size := by
    rcases hg with hg | hg
    · have := own_lt h.own g hg; omega
    · omega
  have db2 : DB w2 d v (.map (some mb)) ⟨0, 0, -1, false⟩ := c2.blk (c1.blk h.b (fun x => x)) (fun x => (no d x).1 rfl)
  refine ⟨?_, ?_, ?_, ?_, ?_, ?_, h.dm, ?_, ?_, h.ld, h.lm⟩
  · rw [hw3]; exact bset db2 0 _
  · have e : (List.range (k + 1)).map (fun i => if i = k then Value.slice (some ⟨w.heap.size, 0, none⟩) 64 64 else SV i) = (List.range k).map SV ++ [.slice (some ⟨w.heap.size, 0, none⟩) 64 64] := by
      rw [List.range_succ, List.map_append]
      congr 1
      · apply List.map_congr_left
        intro i hi
        have : i < k := by simpa using hi
        rw [if_neg (by omega)]
      · simp
    rw [e, hw3]
    have c3' := c3
    rw [hw3] at c3'
    exact own_chg hown c3' (fun g' hg' => by
      have : g = g' := by simpa [Value.ownBlock] using hg'
      subst this; exact gd)
  · intro i hi
    show Row w3 (if i = k then _ else SV i) (if i = k then w.heap.size else SB i) _
    by_cases e : i = k
    · rw [if_pos e, if_pos e]
      refine Row.chg ?_ c3 (by show ¬ w.heap.size = d; omega)
      exact ⟨List.length_replicate, fun x hx => by rw [List.eq_of_mem_replicate hx]; decide, 64, _, rfl, by omega, new2, by rw [Array.size_replicate]; omega, fun j hj => zero_row 64 j hj⟩
    · rw [if_neg e, if_neg e]
      have hik : i < k := by omega
      exact (((h.rows i hik).chg c1 (fun x => x)).chg c2 (fun x => (no _ x).2.2 i hik rfl)).chg c3 (h.nd i hik).1
  · exact ((h.mp.chg c1 (fun x => x)).chg c2 (fun x => (no _ x).2.1 rfl)).chg c3 (fun x => h.dm x.symm)
  · intro i j hi hj
    show (if i = k then w.heap.size else SB i) = (if j = k then w.heap.size else SB j) → i = j
    by_cases e : i = k
    · by_cases f : j = k
      · intro _; omega
      · rw [if_pos e, if_neg f]
        intro x; have := lb j (by omega); omega
    · by_cases f : j = k
      · rw [if_neg e, if_pos f]
        intro x; have := lb i (by omega); omega
      · rw [if_neg e, if_neg f]
        exact h.inj i j (by omega) (by omega)
  · intro i hi
    show (if i = k then w.heap.size else SB i) ≠ d ∧ (if i = k then w.heap.size else SB i) ≠ mb ∧ _ ≤ (if i = k then w.heap.size else SB i)
    by_cases e : i = k
    · rw [if_pos e]; exact ⟨by omega, by omega, hz⟩
    · rw [if_neg e]; exact h.nd i (by omega)
  · intro g' hg'
    have : g = g' := by simpa [Value.ownBlock] using hg'
    subst this
    refine ⟨gd, gm, fun i hi => ?_⟩
    show (if i = k then w.heap.size else SB i) ≠ g
    by_cases e : i = k
    · rw [if_pos e]; exact fun x => gw x.symm
    · rw [if_neg e]; exact gs i (by omega)
  · have c2' : Chg (fun i => w0.heap.size ≤ i) w1 w2 := c2.mono (fun i _ hh => (h.own.lt i hh).1)
    have c3' : Chg (fun i => w0.heap.size ≤ i) w2 w3 := c3.mono (fun i _ hh => by rw [show i = d from hh]; exact h.ld)
    exact ((h.ch.trans c1 (fun _ _ x => x)).trans c2' (fun i hi hh => by have hh' : w0.heap.size ≤ i := hh; omega)).trans c3' (fun i hi hh => by have hh' : w0.heap.size ≤ i := hh; omega)
set_option maxRecDepth 100000 in
set_option maxHeartbeats 2000000 in
theorem dnew_any (n : Nat) (h1 : 1 ≤ n) (h2 : n ≤ 4096) (w : World) : Calls Try.prog 13 #[.int .i64 n] w (DNewPost n w) := by
  have hmm := @run_makeMap Try.prog
  go_enter Try.func13, Try.ntmps13
  go_wp2_with fail
  have hM : Made w ((w.alloc (.map #[] 0)).alloc (.cells #[.slice none 0 0, .map (some w.heap.size), .int .i64 0, .int .i64 0, .int .i64 (-1), .bool false] 76)) (w.heap.size + 1) w.heap.size 0 (.slice none 0 0) (fun _ => .slice none 0 0) (fun _ => 0) := by
    refine ⟨bnew' (by simp) _, World.ownsRow_nil _ _ _ _, fun i hi => by omega, ?_, fun i j hi => by omega, fun i hi => by omega, by omega, fun g hg => by simp [Value.ownBlock] at hg, ((Chg.refl NoB w).alloc _).alloc _, by omega, Nat.le_refl _⟩
    exact (MapAt.new w).chg ((Chg.refl NoB _).alloc _) (fun x => x)
  generalize (w.alloc (.map #[] 0)).alloc (.cells #[.slice none 0 0, .map (some w.heap.size), .int .i64 0, .int .i64 0, .int .i64 (-1), .bool false] 76) = W at *
  generalize hd : w.heap.size + 1 = d at *
  generalize hmb : w.heap.size = mb at *
  clear hmm hd hmb
  have hmk := fun (w : World) => run_make1 (P := Try.prog) 31 5 (.int .u8 0) 1 Try.underlying31 info8 rfl 64 (by decide) (by decide) (by decide) w
  obtain ⟨i0, hi0, hz0, hz1, hz2⟩ := info_parts infoS
  go_loopw [10] (fun i wr => NRel w d mb n i wr) (fun i wr => (n - intOf i).toNat)
  case atStart => exact ⟨0, _, _, _, by omega, rfl, hM⟩
  case round =>
    clear hM
    obtain ⟨k, v, SV, SB, hk, rfl, hM⟩ := hrel
    by_cases hlt : k < n
    · obtain ⟨k0, k1, k2, k3, k4, k5⟩ := six hM.b
      clear k1 k2 k3 k4 k5
      have hf := bfroz hM.b 0
      have hdl : d < wr.heap.size := blt hM.b
      have hown := hM.own
      have nx : ∀ v2 SV2 SB2 w', Made w w' d mb (k + 1) v2 SV2 SB2 → NRel w d mb n (.int .i64 ((k : Int) + 1)) w' := fun v2 SV2 SB2 w' h => ⟨k + 1, v2, SV2, SB2, by omega, rfl, h⟩
      have hne : v.ownBlock ≠ some d := fun x => (hM.nv d x).1 rfl
      obtain ⟨W1, hW1⟩ : ∃ W1, W1 = ((wr.alloc (.cells (Array.replicate 64 (.int .u8 0)) 5)).alloc (.cells #[.slice (some ⟨wr.heap.size, 0, none⟩) 64 64] 31)).drew := ⟨_, rfl⟩
      have hnews : ∀ j u, [Value.slice (some ⟨wr.heap.size, 0, none⟩) 64 64][j]? = some u → (((wr.alloc (.cells (Array.replicate 64 (.int .u8 0)) 5)).alloc (.cells #[.slice (some ⟨wr.heap.size, 0, none⟩) 64 64] 31)).drew).cell? ((⟨wr.heap.size + 1, 0, none⟩ : Addr).add j) = some u := by
        intro j u hj
        have hb : Blk ((wr.alloc (.cells (Array.replicate 64 (.int .u8 0)) 5)).alloc (.cells #[.slice (some ⟨wr.heap.size, 0, none⟩) 64 64] 31)) (wr.heap.size + 1) #[.slice (some ⟨wr.heap.size, 0, none⟩) 64 64] 31 := bnew' (by simp) _
        rw [add0]
        have hj0 : j = 0 := by have := (List.getElem?_eq_some_iff.1 hj).1; simpa using this
        subst hj0
        exact (bcell hb 0).trans hj
      have hbase : w.heap.size ≤ (((wr.alloc (.cells (Array.replicate 64 (.int .u8 0)) 5)).alloc (.cells #[.slice (some ⟨wr.heap.size, 0, none⟩) 64 64] 31)).drew).heap.size := by
        have := hM.ch.size
        simp [World.drew]; omega
      have hst : ∀ w2, W1.grownBy w2 v.ownBlock → DB w2 d v (.map (some mb)) ⟨0, 0, -1, false⟩ := by
        intro w2 hg
        have c1 : Chg NoB wr W1 := by rw [hW1]; exact (((Chg.refl NoB wr).alloc _).alloc _).drew
        exact (Chg.of_grownBy (S := fun i => v.ownBlock = some i) hg (fun j hj => .inl hj)).blk (c1.blk hM.b (fun x => x)) hne
      rw [hW1] at hst
      have HST := Lib.hid hst
      have NX := Lib.hid (And.intro nx (And.intro hM hne))
      clear nx hM hne hst hW1
      go_wp2_with fail
      go_region_law (first | (refine step_append_lies _ (by rfl) _ _ _ (by rfl) w.heap.size 31 i0 _ 1 24 Try.underlying23 hi0 hz0 hz1 hz2 rfl (by omega) v k _ (by rfl) (((hown.alloc _).alloc _).drew) ⟨wr.heap.size + 1, 0, none⟩ 1 1 [.slice (some ⟨wr.heap.size, 0, none⟩) 64 64] (by rfl) (by rfl) hnews (by simp [Value.oneCell']) (by omega) (by unfold maxLen; omega) (by omega) hbase (wr.heap.size + 2) (by simp [World.drew]) ?_; intro g cap w2 hown2 hgr hg hgl; have hD := HST.out w2 hgr; have hcd := (six hD).1; have hfd := bfroz hD 0; clear hD hgl))
      all_goals
        have N := NX.out.2.1.next rfl g cap hown2 hgr hg rfl
        have NN := NX.out.1 _ _ _ _ N
        clear N hown2 hgr hg NX HST hown hnews hbase
        go_wp2_with fail
        exact ⟨NN, by simp [intOf]; omega⟩
    · obtain rfl : k = n := by omega
      obtain ⟨ρ, hp⟩ := hM.disk h1 h2
      have post : DNewPost k w (.returned (.pointer (some ⟨d, 0, none⟩))) wr := ⟨d, ρ, rfl, hp.1, hM.ch, hp.2⟩
      clear hM hp
      go_wp2_with fail
      go_ret
      exact post
def DSt.failing (s : DSt) (a b : Int) : DSt := { s with num := { s.num with first := if a < 0 then 0 else a, fail := if b < 0 then 0 else b } }
def FailPost (w : World) (d : Nat) (ρ : Nat → Nat) (s : DSt) (a b : Int) (e : Ending) (w' : World) : Prop := e = .returned (.tuple #[]) ∧ DiskAt w' d ρ (s.failing a b) ∧ Chg (Own ρ) w w'
set_option maxHeartbeats 2000000 in
theorem fail_any (d : Nat) (ρ : Nat → Nat) (s : DSt) (a b : Int) (w : World) (ha : a ≤ 9223372036854775807) (hb : b ≤ 9223372036854775807) (h : DiskAt w d ρ s) : Calls Try.prog 20 #[.pointer (some ⟨d, 0, none⟩), .int .i64 a, .int .i64 b] w (FailPost w d ρ s a b) := by
  obtain ⟨sv, mb, cap, SV, SB, LV, LB, h⟩ := h
  obtain ⟨k0, k1, k2, k3, k4, k5⟩ := six h.b
  have hf := bfroz h.b
  have fin : ∀ x y, x = (if a < 0 then 0 else a) → y = (if b < 0 then 0 else b) → FailPost w d ρ s a b (.returned (.tuple #[])) ((w.setCell ⟨d, 2, none⟩ (.int .i64 x)).setCell ⟨d, 3, none⟩ (.int .i64 y)) := by
    intro x y hx hy
    refine ⟨rfl, ?_, (chg2 (chg1 _ _ _ _) _ _).mono (fun i _ hh => by rw [show i = d from hh]; show ρ d ≠ 0; rw [h.r1]; decide)⟩
    have b1 : DB (w.setCell ⟨d, 2, none⟩ (.int .i64 x)) d (.slice (some ⟨sv, 0, none⟩) s.n cap) (.map (some mb)) { s.num with first := x } := bset h.b 2 _
    have b2 : DB ((w.setCell ⟨d, 2, none⟩ (.int .i64 x)).setCell ⟨d, 3, none⟩ (.int .i64 y)) d (.slice (some ⟨sv, 0, none⟩) s.n cap) (.map (some mb)) { s.num with first := x, fail := y } := bset b1 3 _
    have hok := h.ok
    unfold DN.ok at hok
    have := h.nums { s.num with first := x, fail := y } ⟨by simp only; split at hx <;> omega, by simp only; split at hy <;> omega, hok.2.2⟩ b2 (chg2 (chg1 _ _ _ _) _ _)
    rw [hx, hy] at this
    rw [hx, hy]
    exact ⟨_, _, _, _, _, _, _, this⟩
  have FI := Lib.hid fin
  clear fin h k0 k1 k4 k5
  by_cases c1 : a < 0
  all_goals by_cases c2 : b < 0
  all_goals
    go_enter Try.func20, Try.ntmps20
    go_wp2_with fail
    go_end0
    exact FI.out _ _ (by split <;> omega) (by split <;> omega)
theorem fail_nil (a b : Int) (w : World) : Calls Try.prog 20 #[.pointer none, .int .i64 a, .int .i64 b] w fun e w' => e = .returned (.tuple #[]) ∧ w = w' := by
  go_enter Try.func20, Try.ntmps20
  go_wp2_with fail
  go_end0
  exact ⟨rfl, rfl⟩
end Go.Proofs.Ytmonkoclbcahiaa.Disk
