/- Chapter 7: acts that came in; what is done keeps what is bad. -/
import Derived.Test.YtolojkfpokmdkaaRRRegS
namespace Go.Proofs.YtolojkfpokmdkaaRR.Reg
open Go.RowKit Go.Proofs.YtolojkfpokmdkaaRR.Hp Go.Proofs.YtolojkfpokmdkaaRR.By Go.Proofs.YtolojkfpokmdkaaRR.Disk Go.Proofs.YtolojkfpokmdkaaRR.Word Go.Proofs.YtolojkfpokmdkaaRR.WordP Go.Proofs.YtolojkfpokmdkaaRR.Log Go.Proofs.YtolojkfpokmdkaaRR.Slot Go.Proofs.YtolojkfpokmdkaaRR.Jour
set_option linter.unusedVariables false
set_option linter.unusedSimpArgs false
structure GAct where
  A : Option Addr
  len : Nat
  cap : Nat
  zs : List Int
  set_ : Bool
  sc : Int
  st : Int
def gCells (x : GAct) : List Value := [.slice x.A x.len x.cap, .bool x.set_, .int .i64 x.sc, .int .i64 x.st]
def GAt (w : World) (ad : Addr) (i : Nat) (x : GAct) : Prop := (∀ j v, (gCells x)[j]? = some v → w.cell? (ad.add (i * 4 + j)) = some v) ∧ IsRow .i64 w x.A x.len x.cap x.zs
def IsG (w : World) (A : Option Addr) (len cap : Nat) (X : Nat → GAct) : Prop := (A = none ∧ len = 0 ∧ cap = 0) ∨ ∃ ad, A = some ad ∧ len ≤ cap ∧ cap ≤ maxLen ∧ ∀ i, i < len → GAt w ad i (X i)
section
variable {H : Type} {enc : TypeId × Value → H} {w : World} {base : Nat} {spare : Nat → Bool} {held : Bool}
theorem gact_of (l : List Value) (n : Nat) (hl : l.length = 4) (hsp : ∀ b, spare b = true)
    (h0 : ∃ y, DataW.trod enc Try.prog w base spare held n 29 ((l.drop 0).take (Try.prog.cellsOf 29)) = some y) (h1 : ∃ y, DataW.trod enc Try.prog w base spare held n 4 ((l.drop 1).take (Try.prog.cellsOf 4)) = some y)
    (h2 : ∃ y, DataW.trod enc Try.prog w base spare held n 3 ((l.drop 2).take (Try.prog.cellsOf 3)) = some y) (h3 : ∃ y, DataW.trod enc Try.prog w base spare held n 3 ((l.drop 3).take (Try.prog.cellsOf 3)) = some y) :
    ∃ x : GAct, l = gCells x ∧ IsRow .i64 w x.A x.len x.cap x.zs := by
  rw [show Try.prog.cellsOf 29 = 1 by kernel_rfl] at h0
  rw [show Try.prog.cellsOf 4 = 1 by kernel_rfl] at h1
  rw [show Try.prog.cellsOf 3 = 1 by kernel_rfl] at h2 h3
  match l, hl with
  | [c0, c1, c2, c3], _ =>
    obtain ⟨y0, h0⟩ := h0
    obtain ⟨y1, h1⟩ := h1
    obtain ⟨y2, h2⟩ := h2
    obtain ⟨y3, h3⟩ := h3
    obtain ⟨A, le, ca, zs, e0, hr⟩ := row_of_trod (v := c0) Try.underlying29 Try.underlying3 (by kernel_rfl) (by simpa using h0) hsp
    obtain ⟨b1, e1, -⟩ := DataW.trod_bool Try.underlying4 h1
    obtain ⟨n2, e2, -⟩ := DataW.trod_int Try.underlying3 h2
    obtain ⟨n3, e3, -⟩ := DataW.trod_int Try.underlying3 h3
    have f1 : c1 = .bool b1 := by simpa using e1
    have f2 : c2 = .int .i64 n2 := by simpa using e2
    have f3 : c3 = .int .i64 n3 := by simpa using e3
    exact ⟨⟨A, le, ca, zs, b1, n2, n3⟩, by rw [f1, f2, f3, e0]; rfl, hr⟩
theorem g_open {fuel : Nat} {x : DataW H × List MemPlace} {a : Option Addr} {len cap : Nat} (h : DataW.trod enc Try.prog w base spare held fuel 37 [.slice a len cap] = some x) (hsp : ∀ b, spare b = true) : ∃ X, IsG w a len cap X := by
  have hc : Try.prog.cellsOf 41 = 4 := by kernel_rfl
  rcases open_elems Try.underlying37 Try.underlying41 h with hcs | ⟨ad, l, c, hcs, hl, hm, hi⟩
  · simp at hcs
    obtain ⟨rfl, rfl, rfl⟩ := hcs
    exact ⟨fun _ => ⟨none, 0, 0, [], false, 0, 0⟩, .inl ⟨rfl, rfl, rfl⟩⟩
  · simp at hcs
    obtain ⟨rfl, rfl, rfl⟩ := hcs
    have each : ∀ i, ∃ x : GAct, i < len → GAt w ad i x := by
      intro i
      by_cases hil : i < len
      · obtain ⟨cs, n, hcl, hat, hf⟩ := hi i hil
        rw [hc] at hcl hat
        obtain ⟨x, e, hr⟩ := gact_of (enc := enc) (w := w) (base := base) (spare := spare) (held := held) cs n hcl hsp (hf 0 _ rfl) (hf 1 _ rfl) (hf 2 _ rfl) (hf 3 _ rfl)
        exact ⟨x, fun _ => ⟨fun j v hj => hat j v (by rw [e]; exact hj), hr⟩⟩
      · exact ⟨⟨none, 0, 0, [], false, 0, 0⟩, fun h => absurd h hil⟩
    exact ⟨fun i => (each i).choose, .inr ⟨ad, rfl, hl, hm, fun i hil => (each i).choose_spec hil⟩⟩
end
/-- more is bad -/
def More (x x' : RSt) : Prop := ∀ f, x.bad f = true → x'.bad f = true
theorem More.rfl' (x : RSt) : More x x := fun _ h => h
theorem More.app (x : RSt) (y : Rec) : More x (x.app y) := by
  intro f h
  cases y with
  | bads l =>
    show (x.bad f || decide (f ∈ l)) = true
    rw [h]; rfl
  | state s n => exact h
theorem more_sub {x x' : RSt} (h : More x x') : x.badL.Sublist x'.badL := by
  unfold RSt.badL
  refine List.Sublist.map _ ?_
  have e : (List.range 1024).filter x.bad = ((List.range 1024).filter x'.bad).filter x.bad := by
    rw [List.filter_filter]
    congr 1
    funext f
    cases hb : x.bad f with
    | true => rw [h f hb]; rfl
    | false => rfl
  rw [e]
  exact List.filter_sublist
/-- a registry on a disk where nothing fails; these blocks are none of theirs -/
def RegZ (w0 : World) (Z : Nat → Prop) (r j bm d : Nat) (x : RSt) (G K : Nat) (w : World) : Prop :=
  ∃ ρ s f gen bs ws, RegAt w0 w r j bm d ρ s gen ws.length x K ∧ DReg s f gen bs ws x ∧ gen ≤ (G : Int) ∧ ∀ i, Z i → i < w.heap.size ∧ ¬ AX ρ r j bm i
theorem RegZ.on {w0 w : World} {Z : Nat → Prop} {r j bm d : Nat} {x : RSt} {G K : Nat} (h : RegZ w0 Z r j bm d x G K w) : RegOn w0 r j bm d x G K w := by
  obtain ⟨ρ, s, f, gen, bs, ws, h1, h2, h3, _⟩ := h
  exact ⟨ρ, s, f, gen, bs, ws, h1, h2, h3⟩
/-- blocks that came since -/
theorem RegOn.z {w0 w w' : World} {r j bm d : Nat} {x : RSt} {G K : Nat} (h : RegOn w0 r j bm d x G K w) (hc : Chg NoB w w') : RegZ w0 (fun i => w.heap.size ≤ i ∧ i < w'.heap.size) r j bm d x G K w' := by
  obtain ⟨ρ, s, f, gen, bs, ws, h1, h2, h3⟩ := h
  refine ⟨ρ, s, f, gen, bs, ws, h1.keep hc, h2, h3, fun i hi => ⟨hi.2, fun q => ?_⟩⟩
  obtain ⟨⟨l1, l2, l3⟩, l4⟩ := h1.lt
  rcases q with q | q | q | q
  · have := l4 _ q; omega
  · omega
  · omega
  · omega
def DoneTo (w0 w : World) (Z : Nat → Prop) (r j bm d : Nat) (x : RSt) (G K : Nat) (e : Ending) (w' : World) : Prop := ∃ E x', e = .returned (.int .i64 E) ∧ RegZ w0 Z r j bm d x' (G + 1) (K + 20) w' ∧ More x x' ∧ Chg (fun i => ¬ Z i) w w'
theorem adds_z {w0 w : World} {Z : Nat → Prop} {r j bm d : Nat} {ρ : Nat → Nat} {s : DSt} {f : Nat → List Int} {gen : Int} {bs : List Int} {ws : List (List Int)} {x : RSt} {G K : Nat} (h : RegAt w0 w r j bm d ρ s gen ws.length x K) (hD : DReg s f gen bs ws x) (hg : gen ≤ (G : Int)) (hG : G < 90000) (hK : K ≤ 900000) (hZ : ∀ i, Z i → i < w.heap.size ∧ ¬ AX ρ r j bm i) :
    Adds w r j bm ρ (fun y E w' => E = 0 ∧ RegZ w0 Z r j bm d (x.app y) (G + 1) (K + 20) w' ∧ Chg (fun i => ¬ Z i) w w') := by
  intro y hy w1 A c hC hr ho hc
  refine (adds_calm h hD (by omega) hK y hy w1 A c hC hr ho hc).mono ?_
  rintro e w' ⟨E, rfl, ⟨rfl, ρ', s', f', gen', bs', ws', a1, a2, a3, _, a5⟩, hC'⟩
  have hCw : Chg (fun i => ¬ Z i) w w' := (hC.mono (fun _ _ q => q.elim)).trans hC' (fun i hi q z => (hZ i z).2 q)
  refine ⟨0, rfl, ⟨rfl, ⟨ρ', s', f', gen', bs', ws', a1, a2, by push_cast; omega, fun i hi => ?_⟩, hCw⟩, hC'⟩
  obtain ⟨z1, z2⟩ := hZ i hi
  refine ⟨Nat.lt_of_lt_of_le z1 hCw.size, fun q => ?_⟩
  rcases q with q | q | q | q
  · by_cases hp : ρ i = 0
    · exact q (a5 i z1 hp)
    · exact z2 (.inl hp)
  · exact z2 (.inr (.inl q))
  · exact z2 (.inr (.inr (.inl q)))
  · exact z2 (.inr (.inr (.inr q)))
theorem RegZ.keep {w0 w w' : World} {Z : Nat → Prop} {r j bm d : Nat} {x : RSt} {G K : Nat} (h : RegZ w0 Z r j bm d x G K w) (hc : Chg NoB w w') : RegZ w0 Z r j bm d x G K w' := by
  obtain ⟨ρ, s, f, gen, bs, ws, h1, h2, h3, h4⟩ := h
  exact ⟨ρ, s, f, gen, bs, ws, h1.keep hc, h2, h3, fun i hi => ⟨Nat.lt_of_lt_of_le (h4 i hi).1 hc.size, (h4 i hi).2⟩⟩
theorem RegZ.up {w0 w : World} {Z : Nat → Prop} {r j bm d : Nat} {x : RSt} {G K G' K' : Nat} (h : RegZ w0 Z r j bm d x G K w) (hg : G ≤ G') (hk : K ≤ K') : RegZ w0 Z r j bm d x G' K' w := by
  obtain ⟨ρ, s, f, gen, bs, ws, h1, h2, h3, h4⟩ := h
  exact ⟨ρ, s, f, gen, bs, ws, ⟨h1.jl, h1.rm.up hk, h1.ne, h1.nw⟩, h2, by omega, h4⟩
theorem set_z {w0 w : World} {Z : Nat → Prop} {r j bm d : Nat} {x : RSt} {G K : Nat} (h : RegZ w0 Z r j bm d x G K w) (hG : G < 90000) (hK : K ≤ 900000) (sc st : Int) : Calls Try.prog 10 #[.pointer (some ⟨r, 0, none⟩), .int .i64 sc, .int .i64 st] w (DoneTo w0 w Z r j bm d x G K) := by
  have hh := h
  obtain ⟨ρ, sd, f, gen, bs, ws, h1, h2, h3, h4⟩ := h
  refine (setst_any h1 (adds_z h1 h2 h3 hG hK h4) sc st).mono ?_
  rintro e w' ⟨E, rfl, hc⟩
  rcases hc with ⟨_, rfl, hC⟩ | ⟨_, _, rfl, hC⟩ | ⟨_, _, rfl, a1, a2⟩
  · exact ⟨_, x, rfl, (hh.keep hC).up (by omega) (by omega), More.rfl' x, hC.mono (fun _ _ q => q.elim)⟩
  · exact ⟨_, x, rfl, (hh.keep hC).up (by omega) (by omega), More.rfl' x, hC.mono (fun _ _ q => q.elim)⟩
  · exact ⟨_, _, rfl, a1, More.app x _, a2⟩
theorem add_z {w0 w : World} {Z : Nat → Prop} {r j bm d : Nat} {x : RSt} {G K : Nat} (h : RegZ w0 Z r j bm d x G K w) (hG : G < 90000) (hK : K ≤ 900000) (A : Option Addr) (c : Nat) (zs : List Int) (hr : Rd w .i64 A zs) (hnil : A = none → c = 0 ∧ zs = []) : Calls Try.prog 9 #[.pointer (some ⟨r, 0, none⟩), .slice A zs.length c] w (DoneTo w0 w Z r j bm d x G K) := by
  have hh := h
  obtain ⟨ρ, sd, f, gen, bs, ws, h1, h2, h3, h4⟩ := h
  refine (addbad_any h1 (adds_z h1 h2 h3 hG hK h4) A c zs hr hnil).mono ?_
  rintro e w' ⟨E, rfl, hc⟩
  rcases hc with ⟨_, rfl, hC⟩ | ⟨_, _, rfl, hC⟩ | ⟨_, _, rfl, a1, a2⟩
  · exact ⟨_, x, rfl, (hh.keep hC).up (by omega) (by omega), More.rfl' x, hC.mono (fun _ _ q => q.elim)⟩
  · exact ⟨_, x, rfl, (hh.keep hC).up (by omega) (by omega), More.rfl' x, hC.mono (fun _ _ q => q.elim)⟩
  · exact ⟨_, _, rfl, a1, More.app x _, a2⟩
end Go.Proofs.YtolojkfpokmdkaaRR.Reg
