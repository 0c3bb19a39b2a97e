/- More words for blocks of memory: appended zeroes. -/
import Derived.Test.YtmjnbbdlnplmjaaDoorHpB
import Derived.Lib.AppendZerosOnto
namespace Go.Proofs.YtmjnbbdlnplmjaaDoor.Hp
open Go.RowKit
set_option linter.unusedVariables false
set_option linter.unusedSimpArgs false
theorem zeroCells_one (z : Value) (n : Nat) : Builtin.zeroCells #[z] n = Array.replicate n z := by
  apply Array.ext
  · simp [Builtin.zeroCells]
  · intro i h1 h2; simp [Builtin.zeroCells, Nat.mod_one]
theorem run_append_room_zeros {P : Program} (w : World) (t tn ty e : TypeId) (i : TypeInfo) (z : Value) (kq kn : IntKind) (ht : P.underlying t = some (.slice e)) (htn : P.underlying tn = some (.int kn)) (hi : P.info? e = some i) (hz : i.zero = some z) (h1 : i.size = 1) (hz1 : z.cells = #[z]) (h1c : z.oneCell' = true)
    (g sLen sCap : Nat) (C : Array Value) (hg : Blk w g C e) (k : Nat) (hroom : sLen + k ≤ sCap) (hfit : sLen + k ≤ C.size) (h48 : k * i.bytes ≤ 281474976710656) (h63 : k ≤ 9223372036854775807) :
    (Builtin.append_ #[t, tn] ty #[.slice (some ⟨g, 0, none⟩) sLen sCap, .int kq k]).run P w = .ok (.slice (some ⟨g, 0, none⟩) (sLen + k) sCap) (w.setRow g (splA C sLen (List.replicate k z))) := by
  have hw : IntKind.i64.wrap (k : Int) = k := by rw [IntKind.wrap_i64]; omega
  have hneg : ¬ ((k : Int) < 0) := by omega
  have h48i : ¬ (281474976710656 < (k : Int) * (i.bytes : Int)) := by
    rw [← Int.natCast_mul]
    omega
  have hst := run_storeCells_at P g sLen e (List.replicate k z) 0 C w hg (by simpa using hfit) (fun v hv => by rw [List.eq_of_mem_replicate hv]; exact h1c)
  simp only [Nat.add_zero] at hst
  by_cases hk : k = 0
  · subst hk
    have : splA C sLen [] = C := by simp [splA]
    simp only [List.replicate_zero] at hst ⊢
    rw [this, setRow_self w g C e (0, 0) hg]
    have hw0 : IntKind.i64.wrap 0 = 0 := by rw [IntKind.wrap_i64]; omega
    have hroom' : sLen ≤ sCap := by omega
    simp [Builtin.append_, run_underlying ht, run_underlying htn, sizeOf, typeInfo, zeroValue, hi, hz, h1, asInt, asIntOf, hw0, hroom', storeCells]
  · simp [Builtin.append_, run_underlying ht, run_underlying htn, sizeOf, typeInfo, zeroValue, hi, hz, h1, hz1, zeroCells_one, asInt, asIntOf, hw, hroom, hneg, hk, h48i, Addr.add_lit, hst, splA]
theorem run_append_own_zeros {P : Program} (w : World) (base : Nat) (t tn ty e : TypeId) (i : TypeInfo) (z : Value) (bytes : Nat) (kq kn : IntKind) (ht : P.underlying t = some (.slice e)) (htn : P.underlying tn = some (.int kn)) (hi : P.info? e = some i) (hz : i.zero = some z) (h1 : i.size = 1) (hby : i.bytes = bytes) (hz1 : z.cells = #[z]) (h1c : z.oneCell' = true)
    (v : Value) (n : Nat) (ys : List Value) (hown : w.ownsRow base e 1 v n ys) (k : Nat) (h63 : n + k ≤ 9223372036854775807) (hbytes : (n + k) * bytes ≤ 140737488355328) (hbase : base ≤ w.heap.size) :
    ∃ v' w', (Builtin.append_ #[t, tn] ty #[v, .int kq k]).run P w = .ok v' w' ∧ w'.ownsRow base e 1 v' (n + k) (ys ++ List.replicate k z) ∧ w.grownBy w' v.ownBlock := by
  subst hby
  have hk48 : k * i.bytes ≤ 281474976710656 := by
    have : k * i.bytes ≤ (n + k) * i.bytes := Nat.mul_le_mul_right _ (by omega)
    omega
  have hlen : (ys ++ List.replicate k z).length = (n + k) * 1 := by rw [List.length_append, hown.1, List.length_replicate]; omega
  have grown : ∀ (old : Nat), old < n + k → ∀ (row : Option Nat),
      (w.drew.alloc (.cells (ys.toArray ++ Builtin.zeroCells z.cells k ++ Builtin.zeroCells z.cells (grownCap w (n + k) old e - (n + k))) e)).ownsRow base e 1
        (.slice (some ⟨w.heap.size, 0, none⟩) (n + k) (grownCap w (n + k) old e)) (n + k) (ys ++ List.replicate k z) ∧
      w.grownBy (w.drew.alloc (.cells (ys.toArray ++ Builtin.zeroCells z.cells k ++ Builtin.zeroCells z.cells (grownCap w (n + k) old e - (n + k))) e)) row := by
    intro old ho row
    have hge := grownCap_ge w (n + k) old e
    have hcm : grownCap w (n + k) old e ≤ maxLen := grownCap_le_maxLen w (n + k) old e (by unfold maxLen; omega)
    have hyl : ys.length = n := by have := hown.1; omega
    refine ⟨⟨hlen, .inr ⟨w.heap.size, _, _, rfl, hbase, heap_alloc_new w.drew _, hge, hcm, ?_, ?_⟩⟩, ⟨rfl, rfl, rfl, by simp, fun j hj _ => Below.heap_alloc w.drew _ j hj⟩⟩
    · rw [hz1, zeroCells_one, zeroCells_one]
      simp only [Array.size_append, List.size_toArray, Array.size_replicate, hyl]
      omega
    · rw [hz1, zeroCells_one, zeroCells_one]
      simp only [Array.toList_append, Array.toList_replicate, List.append_assoc]
      rw [← List.append_assoc, ← hlen]
      exact List.take_left
  rcases hown.2 with ⟨rfl, rfl⟩ | ⟨g, cap, cur, rfl, hbg, hg, hnc, hcm, hcs, htake⟩
  · have hx : ys = [] := List.eq_nil_of_length_eq_zero (by simpa using hown.1)
    subst hx
    by_cases hk0 : k = 0
    · subst hk0
      have hw0 : IntKind.i64.wrap 0 = 0 := by rw [IntKind.wrap_i64]; omega
      refine ⟨.slice none 0 0, w, ?_, World.ownsRow_nil w base e 1, ⟨rfl, rfl, rfl, Nat.le_refl _, fun _ _ _ => rfl⟩⟩
      simp [Builtin.append_, run_underlying ht, run_underlying htn, sizeOf, typeInfo, zeroValue, hi, hz, h1, asInt, asIntOf, hw0, storeCells]
    have hk : 0 < k := by omega
    have hr := Lib.run_append_grow_zeros (P := P) w t tn ty e i z kq kn ht htn hi hz none 0 0 [] (by simp [Builtin.firstCells]) k hk (by omega) (by omega) (by omega) hk48 (growslice_fits (by omega) hbytes)
    have hgr := grown 0 (by omega) (Value.ownBlock (.slice none 0 0))
    exact ⟨_, _, hr, hgr.1, hgr.2⟩
  · by_cases hroom : n + k ≤ cap
    · have hfit : n + k ≤ cur.size := by omega
      have hr := run_append_room_zeros (P := P) w t tn ty e i z kq kn ht htn hi hz h1 hz1 h1c g n cap cur hg k hroom hfit hk48 (by omega)
      refine ⟨_, _, hr, ⟨hlen, .inr ⟨g, cap, _, rfl, hbg, setRow_heap w g cur _ e _ hg, hroom, hcm, ?_, ?_⟩⟩, ⟨rfl, rfl, rfl, by simp [World.setRow], fun k _ hk => setRow_other w g k _ (fun e => hk (by simp [Value.ownBlock, e]))⟩⟩
      · rw [splA_size _ _ _ (by rw [List.length_replicate]; exact hfit)]; exact hcs
      · simp only [splA]
        rw [show n * 1 = n from Nat.mul_one n] at htake
        rw [htake, ← hlen]
        exact List.take_left
    · have holds : ∀ j u, ys[j]? = some u → w.cell? ((⟨g, 0, none⟩ : Addr).add j) = some u := hown.cells (g := g) rfl
      have hyl : ys.length = n := by have := hown.1; omega
      have hf : (Builtin.firstCells i.size n (.slice (some ⟨g, 0, none⟩) n cap)).run P w.drew = .ok ys.toArray w.drew := by
        have := run_firstCells_some (P := P) w.drew i.size n ⟨g, 0, none⟩ n cap ys (by rw [hyl, h1]; omega) holds
        exact this
      have hr := Lib.run_append_grow_zeros (P := P) w t tn ty e i z kq kn ht htn hi hz (some ⟨g, 0, none⟩) n cap ys hf k (by omega) (by omega) (by omega) (by omega) hk48 (growslice_fits (by omega) hbytes)
      have hgr := grown cap (by omega) (Value.ownBlock (.slice (some ⟨g, 0, none⟩) n cap))
      exact ⟨_, _, hr, hgr.1, hgr.2⟩
section
variable {P : Program} {ops : Array Oper} {rest : List Oper} {o : Oper} {a : Act} {Q : Exit → Act → World → Prop}
/-- append of zeroes: onto a slice of the call's own. -/
theorem append_zeros {w0 w : World} {S : Nat → Prop} (hgd : o.guard = none) (s x : Operand) (t tn e : TypeId) (ho : o.op = .call { callee := .builtin .append, args := #[s, x], argTypes := #[t, tn] })
    (z : Value) (bytes : Nat) (kq kn : IntKind) (ht : P.underlying t = some (.slice e)) (htn : P.underlying tn = some (.int kn)) (hinfo : (P.info? e).map (fun i => (i.zero, i.size, i.bytes)) = some (some z, 1, bytes)) (hz1 : z.cells = #[z]) (h1c : z.oneCell' = true)
    (v : Value) (n : Nat) (ys : List Value) (hs : a.eval s = v) (hC : Chg S w0 w) (hown : w.ownsRow w0.heap.size e 1 v n ys) (k : Nat) (hx : a.eval x = .int kq k)
    (h1 : n + k ≤ 9223372036854775807) (h2 : (n + k) * bytes ≤ 140737488355328)
    (h : ∀ v' w', w'.ownsRow w0.heap.size e 1 v' (n + k) (ys ++ List.replicate k z) → Chg S w0 w' → wpList P ops Q rest (a.put o.dst v') w') :
    wpList P ops Q (o :: rest) a w := by
  obtain ⟨i0, hi, hz0, hz1', hz2⟩ := info_parts hinfo
  refine wpList_plain hgd fun K hK => ?_
  obtain ⟨v', w', hr, ho', hg'⟩ := run_append_own_zeros (P := P) w w0.heap.size t tn o.type e i0 z bytes kq kn ht htn hi hz0 hz1' hz2 hz1 h1c v n ys hown k h1 h2 hC.size
  have hc : Chg S w0 w' := by
    refine hC.trans (Chg.of_grownBy (S := fun k => w0.heap.size ≤ k) hg' ?_) (fun i hi hh => by omega)
    intro k hk
    left
    rcases hown.2 with ⟨rfl, _⟩ | ⟨g, cap, cur, rfl, hb, _⟩
    · simp [Value.ownBlock] at hk
    · have : g = k := by simpa [Value.ownBlock] using hk
      omega
  have := h v' w' ho' hc
  unfold Oper.wp
  simp [execOp, ho, resolve, invoke, builtin, hs, hx, hr, Result.andThen]
  exact hK _ _ this
end
end Go.Proofs.YtmjnbbdlnplmjaaDoor.Hp
