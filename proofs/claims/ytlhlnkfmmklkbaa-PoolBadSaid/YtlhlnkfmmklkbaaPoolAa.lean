/- Acts that came in; both pools at the start; are they the same. -/
import Derived.Test.YtlhlnkfmmklkbaaPoolZ
import Derived.Test.YtlhlnkfmmklkbaaHpE
namespace Go.Proofs.Ytlhlnkfmmklkbaa.Pool
open Go.RowKit Go.Proofs.Ytlhlnkfmmklkbaa.Hp Go.Proofs.Ytlhlnkfmmklkbaa.Runs
set_option linter.unusedVariables false
set_option linter.unusedSimpArgs false
structure ActV where
  what : Int
  a : Int
  z : Int
  on : Bool
  A : Option Addr
  len : Nat
  cap : Nat
  zs : List Int
def actCells (x : ActV) : List Value := [.int .i64 x.what, .int .i64 x.a, .int .i64 x.z, .bool x.on, .slice x.A x.len x.cap]
def ActAt (w : World) (ad : Addr) (i : Nat) (x : ActV) : Prop := (∀ j v, (actCells x)[j]? = some v → w.cell? (ad.add (i * 5 + j)) = some v) ∧ IsRow .i64 w x.A x.len x.cap x.zs
def IsActs (w : World) (A : Option Addr) (len cap : Nat) (X : Nat → ActV) : Prop := (A = none ∧ len = 0 ∧ cap = 0) ∨ ∃ ad, A = some ad ∧ len ≤ cap ∧ cap ≤ maxLen ∧ ∀ i, i < len → ActAt w ad i (X i)
section
variable {H : Type} {enc : TypeId × Value → H} {w : World} {base : Nat} {spare : Nat → Bool} {held : Bool}
theorem act_of (l : List Value) (n : Nat) (hl : l.length = 5) (hsp : ∀ b, spare b = true)
    (h0 : ∃ y, DataW.trod enc Try.prog w base spare held n 3 ((l.drop 0).take (Try.prog.cellsOf 3)) = some y) (h1 : ∃ y, DataW.trod enc Try.prog w base spare held n 3 ((l.drop 1).take (Try.prog.cellsOf 3)) = some y) (h2 : ∃ y, DataW.trod enc Try.prog w base spare held n 3 ((l.drop 2).take (Try.prog.cellsOf 3)) = some y)
    (h3 : ∃ y, DataW.trod enc Try.prog w base spare held n 4 ((l.drop 3).take (Try.prog.cellsOf 4)) = some y) (h4 : ∃ y, DataW.trod enc Try.prog w base spare held n 59 ((l.drop 4).take (Try.prog.cellsOf 59)) = some y) :
    ∃ x : ActV, l = actCells x ∧ IsRow .i64 w x.A x.len x.cap x.zs := by
  rw [show Try.prog.cellsOf 3 = 1 by kernel_rfl] at h0 h1 h2
  rw [show Try.prog.cellsOf 4 = 1 by kernel_rfl] at h3
  rw [show Try.prog.cellsOf 59 = 1 by kernel_rfl] at h4
  match l, hl with
  | [c0, c1, c2, c3, c4], _ =>
    obtain ⟨y0, h0⟩ := h0
    obtain ⟨y1, h1⟩ := h1
    obtain ⟨y2, h2⟩ := h2
    obtain ⟨y3, h3⟩ := h3
    obtain ⟨y4, h4⟩ := h4
    obtain ⟨n0, e0, -, -⟩ := DataW.trod_int Try.underlying3 h0
    obtain ⟨n1, e1, -, -⟩ := DataW.trod_int Try.underlying3 h1
    obtain ⟨n2, e2, -, -⟩ := DataW.trod_int Try.underlying3 h2
    obtain ⟨b3, e3, -⟩ := DataW.trod_bool Try.underlying4 h3
    obtain ⟨A, le, ca, zs, e4, hr⟩ := row_of_trod (v := c4) Try.underlying59 Try.underlying3 (by kernel_rfl) (by simpa using h4) hsp
    have f0 : c0 = .int .i64 n0 := by simpa using e0
    have f1 : c1 = .int .i64 n1 := by simpa using e1
    have f2 : c2 = .int .i64 n2 := by simpa using e2
    have f3 : c3 = .bool b3 := by simpa using e3
    exact ⟨⟨n0, n1, n2, b3, A, le, ca, zs⟩, by rw [f0, f1, f2, f3, e4]; rfl, hr⟩
theorem acts_open {fuel : Nat} {x : DataW H × List MemPlace} {a : Option Addr} {len cap : Nat} (h : DataW.trod enc Try.prog w base spare held fuel 52 [.slice a len cap] = some x) (hsp : ∀ b, spare b = true) : ∃ X, IsActs w a len cap X := by
  have hc : Try.prog.cellsOf 61 = 5 := by kernel_rfl
  rcases open_elems Try.underlying52 Try.underlying61 h with hcs | ⟨ad, l, c, hcs, hl, hm, hi⟩
  · simp at hcs
    obtain ⟨rfl, rfl, rfl⟩ := hcs
    exact ⟨fun _ => ⟨0, 0, 0, false, none, 0, 0, []⟩, .inl ⟨rfl, rfl, rfl⟩⟩
  · simp at hcs
    obtain ⟨rfl, rfl, rfl⟩ := hcs
    have each : ∀ i, ∃ x : ActV, i < len → ActAt w ad i x := by
      intro i
      by_cases hil : i < len
      · obtain ⟨cs, n, hcl, hat, hf⟩ := hi i hil
        rw [hc] at hcl hat
        obtain ⟨x, e, hr⟩ := act_of (enc := enc) (w := w) (base := base) (spare := spare) (held := held) cs n hcl hsp (hf 0 _ rfl) (hf 1 _ rfl) (hf 2 _ rfl) (hf 3 _ rfl) (hf 4 _ rfl)
        exact ⟨x, fun _ => ⟨fun j v hj => hat j v (by rw [e]; exact hj), hr⟩⟩
      · exact ⟨⟨0, 0, 0, false, none, 0, 0, []⟩, fun h => absurd h hil⟩
    exact ⟨fun i => (each i).choose, .inr ⟨ad, rfl, hl, hm, fun i hil => (each i).choose_spec hil⟩⟩
end
theorem row_old {k : IntKind} {w w' : World} {a : Option Addr} {len cap : Nat} {zs : List Int} (h : IsRow k w a len cap zs) (hc : Chg NoB w w') : IsRow k w' a len cap zs := by
  rcases h with h | ⟨x, rfl, h1, h2, h3, h4, h5⟩
  · exact .inl h
  · exact .inr ⟨x, rfl, h1, h2, h3, fun i hi => hc.cell (h4 i hi) (fun x => x), h5⟩
theorem ActAt.old {w w' : World} {ad : Addr} {i : Nat} {x : ActV} (h : ActAt w ad i x) (hc : Chg NoB w w') : ActAt w' ad i x :=
  ⟨fun j v hj => hc.cell (h.1 j v hj) (fun x => x), row_old h.2 hc⟩
theorem ActAt.five {w : World} {ad : Addr} {i : Nat} {x : ActV} (h : ActAt w ad i x) : w.cell? (ad.add (i * 5)) = some (.int .i64 x.what) ∧ w.cell? ⟨(ad.add (i * 5)).block, (ad.add (i * 5)).off + 1, none⟩ = some (.int .i64 x.a) ∧ w.cell? ⟨(ad.add (i * 5)).block, (ad.add (i * 5)).off + 2, none⟩ = some (.int .i64 x.z) ∧ w.cell? ⟨(ad.add (i * 5)).block, (ad.add (i * 5)).off + 3, none⟩ = some (.bool x.on) ∧ w.cell? ⟨(ad.add (i * 5)).block, (ad.add (i * 5)).off + 4, none⟩ = some (.slice x.A x.len x.cap) := by
  have h0 := h.1 0 _ rfl
  have h1 := h.1 1 _ rfl
  have h2 := h.1 2 _ rfl
  have h3 := h.1 3 _ rfl
  have h4 := h.1 4 _ rfl
  rw [add_field _ _ _ (by omega)] at h1 h2 h3 h4
  exact ⟨h0, h1, h2, h3, h4⟩
/-- an act is loaded whole -/
theorem ActAt.load {w : World} {ad : Addr} {i : Nat} {x : ActV} (h : ActAt w ad i x) : (loadVar 61 (ad.add (i * 5))).run Try.prog w = .ok (.agg #[.int .i64 x.what, .int .i64 x.a, .int .i64 x.z, .bool x.on, .slice x.A x.len x.cap]) w :=
  run_loadVar_any w _ _ _ _ (fun j v hv => by
    rw [Go.Deep.add_add]
    exact h.1 j v (by rw [← Array.getElem?_toList] at hv; exact hv)) Try.underlying61 rfl (by kernel_rfl)
theorem zeroRef : Try.zeroCells58 = (List.replicate 1056 (Value.int .i64 0) ++ List.replicate 32 (Value.bool false)).toArray := by kernel_rfl
theorem rr_new (w : World) : RR (w.alloc (.cells Try.zeroCells58 58)) w.heap.size PS.new := by
  have gen : ∀ n m : Nat, (List.replicate n (Value.int .i64 0) ++ List.replicate m (Value.bool false)).length = n + m ∧ (∀ i, i < n → (List.replicate n (Value.int .i64 0) ++ List.replicate m (Value.bool false))[i]? = some (.int .i64 0)) ∧ ∀ i, i < m → (List.replicate n (Value.int .i64 0) ++ List.replicate m (Value.bool false))[n + i]? = some (.bool false) := by
    intro n m
    refine ⟨by simp, fun i hi => ?_, fun i hi => ?_⟩
    · rw [List.getElem?_append_left (by simpa using hi)]; simp [hi]
    · rw [List.getElem?_append_right (by simp), List.length_replicate, Nat.add_sub_cancel_left]; simp [hi]
  obtain ⟨g1, g2, g3⟩ := gen 1056 32
  rw [zeroRef]
  generalize List.replicate 1056 (Value.int .i64 0) ++ List.replicate 32 (Value.bool false) = l at *
  refine ⟨_, bnew _ _, by rw [List.size_toArray, g1], fun f hf => ?_, fun s hs => ?_, fun s hs => ?_⟩
  · rw [List.getElem?_toArray]; exact g2 f (by omega)
  · rw [List.getElem?_toArray]; exact g2 _ (by omega)
  · rw [List.getElem?_toArray]; exact g3 s hs
theorem both_new {w0 w : World} {p b bi : Nat} (h : PL w0 w p b bi PS.new) : Both w0 (w.alloc (.cells Try.zeroCells58 58)) p b bi w.heap.size PS.new PS.new := by
  have hs := h.ch.size
  have l1 := blt h.at_.fr.st
  have l2 := blt h.at_.fr.xs
  obtain ⟨C, l3, _⟩ := h.at_.st
  have l3 := blt l3
  exact ⟨h.keep ((Chg.refl NoB w).alloc _), rr_new w, hs, by omega, by omega, by omega⟩
def SmRel (w : World) (m : Nat) (i : Value) (wr : World) : Prop := ∃ k n : Nat, k ≤ m ∧ i = .int .i64 k ∧ wr = w.drewN n
set_option maxRecDepth 100000 in
set_option maxHeartbeats 2000000 in
theorem same_any (w0 w : World) (p b bi v : Nat) (S : PS) (h : Both w0 w p b bi v S S) :
    Calls Try.prog 35 #[.pointer (some ⟨p, 0, none⟩), .pointer (some ⟨v, 0, none⟩)] w fun e w' => e = .returned (.bool true) ∧ ∃ n, w' = w.drewN n := by
  have H := Lib.hid h
  clear h
  go_enter Try.func35, Try.ntmps35
  go_wp2_with fail
  go_loopw [5] (fun i wr => SmRel w 1024 i wr) (fun i wr => (1024 - intOf i).toNat)
  case atStart => exact ⟨0, 0, by omega, rfl, rfl⟩
  case round =>
    obtain ⟨k, n, hk, rfl, hw⟩ := hrel
    by_cases hlt : k < 1024
    · have hB := H.out.keep ((Chg.refl NoB w).drewN n)
      rw [← hw] at hB
      have HW := Lib.hid hw
      clear hw
      have hu := fun n2 => (l_use k (hB.pl.keep ((Chg.refl NoB wr).drewN n2))).mono (fun _ _ x => And.intro x.1 x.2.symm)
      have hc := hB.rr.use k hlt
      have e : S.use k = S.U k := by unfold PS.use useD; rw [if_pos ⟨by omega, by omega⟩, Int.toNat_natCast]
      rw [e] at hu
      clear e hB
      generalize S.U k = u at *
      have HU := Lib.hid hu
      clear hu
      go_wp2_with fail
      go_quiet ((go_at_call 31; exact Calls.quiet_of_same (HU.out _)))
      go_wp2_with fail
      exact ⟨⟨k + 1, n + nq, by omega, rfl, by rw [HW.out]; simp [World.drewN, Nat.add_assoc]⟩, by simp [intOf]; omega⟩
    · obtain rfl : k = 1024 := by omega
      have HW := Lib.hid hw
      clear hw
      go_wp2_with fail
      go_loopw [6] (fun i wr => SmRel w 32 i wr) (fun i wr => (32 - intOf i).toNat)
      case atStart => exact ⟨0, n, by omega, rfl, HW.out⟩
      case round =>
        clear HW
        obtain ⟨k, n, hk, rfl, hw⟩ := hrel
        by_cases hlt : k < 32
        · have hB := H.out.keep ((Chg.refl NoB w).drewN n)
          rw [← hw] at hB
          have HW := Lib.hid hw
          clear hw
          have hu := fun n2 => (l_zone k (hB.pl.keep ((Chg.refl NoB wr).drewN n2))).mono (fun _ _ x => And.intro x.1 x.2.symm)
          have hc := hB.rr.zone k hlt
          have e : S.zone k = S.Z k := by unfold PS.zone zoneD; rw [if_pos ⟨by omega, by omega⟩, Int.toNat_natCast]
          rw [e] at hu
          clear e hB
          generalize S.Z k = u at *
          have HU := Lib.hid hu
          clear hu
          go_wp2_with fail
          go_quiet ((go_at_call 33; exact Calls.quiet_of_same (HU.out _)))
          go_wp2_with fail
          exact ⟨⟨k + 1, n + nq, by omega, rfl, by rw [HW.out]; simp [World.drewN, Nat.add_assoc]⟩, by simp [intOf]; omega⟩
        · obtain rfl : k = 32 := by omega
          have HW := Lib.hid hw
          clear hw
          go_wp2_with fail
          go_ret
          exact ⟨rfl, n, HW.out⟩
end Go.Proofs.Ytlhlnkfmmklkbaa.Pool
