/- Memory of frames: what its methods do (second part). -/
import Derived.Test.YtimdojkhdneecaaRam
namespace Go.Proofs.Ytimdojkhdneecaa.Ram
open Go.RowKit Go.Proofs.Ytimdojkhdneecaa.Hp
set_option linter.unusedVariables false
set_option linter.unusedSimpArgs false
def upd (B : Nat → Nat → Int) (f a : Nat) (l : List Int) : Nat → Nat → Int := fun f' j => if f' = f ∧ a ≤ j ∧ j < a + l.length then l.getD (j - a) 0 else B f' j
theorem IsMem.spl {C : Array Value} {n : Nat} {B : Nat → Nat → Int} {D : Nat → Bool} (h : IsMem C n B D) (f a : Nat) (l : List Int) (hf : f < n) (ha : a + l.length ≤ 64) :
    IsMem (splA C (f * 65 + a) (l.map (Value.int .u8))) n (upd B f a l) D := by
  obtain ⟨h1, h2, h3⟩ := h
  have hfit : f * 65 + a + (l.map (Value.int .u8)).length ≤ C.size := by rw [List.length_map, h1]; omega
  refine ⟨by rw [splA_size _ _ _ hfit]; exact h1, fun g hg j hj => ?_, fun g hg => ?_⟩
  · by_cases c : g = f ∧ a ≤ j ∧ j < a + l.length
    · obtain ⟨rfl, c1, c2⟩ := c
      have := splA_in C (g * 65 + a) (l.map (Value.int .u8)) hfit (j - a) (by rw [List.length_map]; omega)
      rw [show g * 65 + a + (j - a) = g * 65 + j from by omega] at this
      rw [this]
      unfold upd
      rw [if_pos ⟨rfl, c1, c2⟩]
      simp [show j - a < l.length from by omega]
    · rw [splA_out _ _ _ hfit _ (by rw [List.length_map]; omega), h2 g hg j hj]
      unfold upd
      rw [if_neg c]
  · rw [splA_out _ _ _ hfit _ (by rw [List.length_map]; omega), h3 g hg]
theorem one_u8 (l : List Int) : ∀ v ∈ l.map (Value.int .u8), v.oneCell' = true := by
  intro v hv
  obtain ⟨x, _, rfl⟩ := List.mem_map.mp hv
  rfl
theorem rd_src {w : World} {A : Option Addr} {l : List Int} (h : Rd w .u8 A l) : 0 < (l.map (Value.int .u8)).length → ∃ ad, A = some ad ∧ ∀ j v, (l.map (Value.int .u8))[j]? = some v → w.cell? (ad.add j) = some v := by
  intro hl
  rw [List.length_map] at hl
  obtain ⟨ad, e, hc⟩ := h.2 hl
  refine ⟨ad, e, fun j v hv => ?_⟩
  have hj : j < l.length := by
    have := (List.getElem?_eq_some_iff.1 hv).1
    rwa [List.length_map] at this
  rw [hc j hj]
  simp [hj] at hv
  simp [hj, hv]
def WritePost (p bl n : Nat) (B : Nat → Nat → Int) (D : Nat → Bool) (E : Int) (B' : Nat → Nat → Int) (w : World) (e : Ending) (w' : World) : Prop :=
  e = .returned (.int .i64 E) ∧ RRam w' p bl n B' D ∧ Chg (· = bl) w w'
theorem copy_nil {P : Program} {w : World} {ops : Array Oper} {rest : List Oper} {o : Oper} {a : Act} {Q : Exit → Act → World → Prop} (hgd : o.guard = none) (d s : Operand) (dT sT : TypeId)
    (ho : o.op = .call { callee := .builtin .copy, args := #[d, s], argTypes := #[dT, sT] }) (elem : TypeId) (hu : P.underlying dT = some (.slice elem)) (hsz : (P.info? elem).map (·.size) = some 1)
    (sp : Option Addr) (sLen sCap : Nat) (hd : a.eval d = .slice none 0 0) (hs : a.eval s = .slice sp sLen sCap)
    (h : wpList P ops Q rest (a.put o.dst (goInt 0)) w) : wpList P ops Q (o :: rest) a w :=
  wpList_copy_nothing hgd d s dT sT ho elem hu hsz none sp 0 0 sLen sCap hd hs (by simp) h
theorem sz8 : (Try.prog.info? 5).map (·.size) = some 1 := by kernel_rfl
set_option maxHeartbeats 4000000 in
theorem write_bad (p bl n : Nat) (B : Nat → Nat → Int) (D : Nat → Bool) (f a : Int) (A : Option Addr) (c L : Nat) (w : World) (h : RRam w p bl n B D) (hb : Bad n f a L) :
    Calls Try.prog 53 #[.pointer (some ⟨p, 0, none⟩), .int .i64 f, .int .i64 a, .slice A L c] w (WritePost p bl n B D 1 B w) := by
  go_enter Try.func53, Try.ntmps53
  go_wp2_with fail
  refine (at_bad p bl n B D f a L _ h hb).mono ?_
  rintro e w1 ⟨rfl, rfl⟩
  go_wp2_with (with_reducible refine copy_nil rfl (.tmp 20) (.tmp 21) 98 98 rfl 5 Try.underlying98 sz8 A L c rfl rfl ?_)
  go_ret
  exact ⟨rfl, h, Chg.refl _ _⟩
set_option maxHeartbeats 4000000 in
theorem write_lost (p bl n : Nat) (B : Nat → Nat → Int) (D : Nat → Bool) (f a : Nat) (A : Option Addr) (c L : Nat) (w : World) (h : RRam w p bl n B D) (hf : f < n) (hm : a + L ≤ 64) (hd : D f = true) :
    Calls Try.prog 53 #[.pointer (some ⟨p, 0, none⟩), .int .i64 f, .int .i64 a, .slice A L c] w (WritePost p bl n B D 7 B w) := by
  go_enter Try.func53, Try.ntmps53
  go_wp2_with fail
  refine (at_lost p bl n B D f a L _ h hf hm hd).mono ?_
  rintro e w1 ⟨rfl, rfl⟩
  go_wp2_with (with_reducible refine copy_nil rfl (.tmp 20) (.tmp 21) 98 98 rfl 5 Try.underlying98 sz8 A L c rfl rfl ?_)
  go_ret
  exact ⟨rfl, h, Chg.refl _ _⟩
set_option maxHeartbeats 4000000 in
theorem write_ok (p bl n : Nat) (B : Nat → Nat → Int) (D : Nat → Bool) (f a : Nat) (A : Option Addr) (c : Nat) (l : List Int) (w : World) (h : RRam w p bl n B D) (hf : f < n) (hm : a + l.length ≤ 64) (hd : D f = false) (hl : Rd w .u8 A l) :
    Calls Try.prog 53 #[.pointer (some ⟨p, 0, none⟩), .int .i64 f, .int .i64 a, .slice A l.length c] w (WritePost p bl n B D 0 (upd B f a l) w) := by
  obtain ⟨C, hC, hM⟩ := h.xs
  have hsz := hM.1
  have hfit : f * 65 + a + (l.map (Value.int .u8)).length ≤ C.size := by rw [List.length_map, hsz]; omega
  have fin : ∀ w', Blk w' bl (splA C (f * 65 + a) (l.map (Value.int .u8))) 90 → Chg (· = bl) w w' → WritePost p bl n B D 0 (upd B f a l) w (.returned (.int .i64 0)) w' := by
    intro w' h1 h2
    exact ⟨rfl, ⟨h2.blk h.st h.ne, ⟨_, h1, hM.spl f a l hf hm⟩, h.ne, h.le⟩, h2⟩
  have FIN := Lib.hid fin
  have HM := Lib.hid hM
  clear fin hM
  go_enter Try.func53, Try.ntmps53
  go_wp2_with fail
  refine (at_ok p bl n B D f a l.length _ h hf hm hd).mono ?_
  rintro e w1 ⟨rfl, rfl⟩
  have hadr : 0 < (l.map (Value.int .u8)).length → (some ⟨bl, adr f a l.length, none⟩ : Option Addr) = some ⟨bl, f * 65 + a, none⟩ := by
    intro hp
    rw [List.length_map] at hp
    unfold adr; rw [if_neg (by omega)]
  have hmin : (l.map (Value.int .u8)).length = Nat.min l.length l.length := by simp
  go_wp2_with (with_reducible refine copy_into (w0 := w) (S := (· = bl)) rfl (.tmp 20) (.tmp 21) 98 98 rfl 5 Try.underlying98 sz8 (some ⟨bl, adr f a l.length, none⟩) A l.length l.length l.length c rfl rfl bl (f * 65 + a) C 90 hC (l.map (Value.int .u8)) hmin hadr (rd_src hl) hfit (one_u8 l) (Chg.refl _ _) (.inl rfl) ?_; intro w' h1 h2 h3; have F := FIN.out w' h1 h2; clear h1 h2 h3)
  go_ret
  exact F
def ClonePost (l : List Int) (w : World) (e : Ending) (w' : World) : Prop :=
  ∃ v, e = .returned v ∧ w'.ownsRow w.heap.size 5 1 v l.length (l.map (Value.int .u8)) ∧ Chg NoB w w'
theorem clone_nil (w : World) : Calls Try.prog 64 #[.slice none 0 0] w fun e w' => e = .returned (.slice none 0 0) ∧ w = w' := by
  have hq := fun (w : World) => Lib.run_eql_slice_nil (P := Try.prog) w 98 5 none 0 0 0 0 Try.underlying98
  go_enter Try.func64, Try.ntmps64
  go_wp2
  go_ret
  exact ⟨rfl, rfl⟩
theorem info8 : (Try.prog.info? 5).map (fun i => (i.zero, i.size, i.bytes)) = some (some (.int .u8 0), 1, 1) := by kernel_rfl
set_option maxHeartbeats 2000000 in
theorem clone_some (ad : Addr) (l : List Int) (c : Nat) (w : World) (h : Rd w .u8 (some ad) l) : Calls Try.prog 64 #[.slice (some ad) l.length c] w (ClonePost l w) := by
  have hq := fun (w : World) => Lib.run_eql_slice_nil (P := Try.prog) w 98 5 (some ad) l.length c 0 0 Try.underlying98
  have hlen := h.1
  have hown : (w.alloc (.cells #[] 5)).ownsRow w.heap.size 5 1 (.slice (some ⟨w.heap.size, 0, none⟩) 0 0) 0 [] := World.ownsRow_made w _ 0 (Nat.le_refl _) (by unfold maxLen; omega) rfl
  have hC : Chg NoB w (w.alloc (.cells #[] 5)) := (Chg.refl _ _).alloc _
  have h' : Rd (w.alloc (.cells #[] 5)) .u8 (some ad) l := h.chg hC (fun _ _ _ x => x)
  have hll : (l.map (Value.int .u8)).length = l.length := List.length_map ..
  have hx : ∀ a : Act, a.eval (.tmp 6) = .slice (some ad) l.length c → a.eval (.tmp 6) = .slice (some ad) (l.map (Value.int .u8)).length c := fun a e => by rw [hll]; exact e
  have HX := Lib.hid hx
  clear hx
  go_enter Try.func64, Try.ntmps64
  go_wp2_with (first | (at_builtin; refine append_src (w0 := w) (S := NoB) rfl (.tmp 5) (.tmp 6) 98 5 rfl (.int .u8 0) 1 Try.underlying98 info8 rfl (.slice (some ⟨w.heap.size, 0, none⟩) 0 0) 0 [] rfl hC hown (l.map (Value.int .u8)) (some ad) c (HX.out _ rfl) (fun e => by cases e) (rd_src h') (one_u8 l) (by omega) (by omega) ?_; intro v' w1 hown' hC'))
  rw [List.nil_append, Nat.zero_add, hll] at hown'
  go_ret
  exact ⟨_, rfl, hown', hC'⟩
end Go.Proofs.Ytimdojkhdneecaa.Ram
