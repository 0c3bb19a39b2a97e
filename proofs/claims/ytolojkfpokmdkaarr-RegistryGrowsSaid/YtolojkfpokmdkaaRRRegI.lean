/- Chapter 7: frames that are wrong, or known: slices.ContainsFunc, Clone, DeleteFunc. -/
import Derived.Test.YtolojkfpokmdkaaRRRegH
import Derived.Test.YtolojkfpokmdkaaRRLays7
namespace Go.Proofs.YtolojkfpokmdkaaRR.Reg
open Go.RowKit Go.Shelf Go.Lib Go.Sort Go.Proofs.YtolojkfpokmdkaaRR.Hp Go.Proofs.YtolojkfpokmdkaaRR.By Go.Proofs.YtolojkfpokmdkaaRR.Disk Go.Proofs.YtolojkfpokmdkaaRR.Word Go.Proofs.YtolojkfpokmdkaaRR.WordP Go.Proofs.YtolojkfpokmdkaaRR.Slot Go.Proofs.YtolojkfpokmdkaaRR.Jour
set_option linter.unusedVariables false
set_option linter.unusedSimpArgs false
def isFr (f : Int) : Bool := decide (0 ≤ f ∧ f < 1024)
theorem wrong_any (x : Int) (W : World) : FnGives Try.prog 21 #[] #[.int .i64 x] (.bool (!isFr x)) W := by
  show Calls Try.prog 21 #[.int .i64 x] W _
  have hf := frame_any x W
  unfold isFr
  generalize decide (0 ≤ x ∧ x < 1024) = b at *
  go_enter Try.func21, Try.ntmps21
  go_wp2_with fail
  refine hf.mono ?_
  rintro e w' ⟨rfl, rfl⟩
  clear hf
  go_wp2_with fail
  go_ret
  exact ⟨rfl, 0, rfl⟩
def ContRel (zs : List Int) (w : World) (i : Value) (wr : World) : Prop := ∃ k : Nat, k ≤ zs.length ∧ i = .int .i64 (k : Int) ∧ (zs.take k).any (fun x => !isFr x) = false ∧ Chg NoB w wr
def ContPost (zs : List Int) (w : World) (e : Ending) (w' : World) : Prop := ∃ n : Int, e = .returned (.int .i64 n) ∧ (0 ≤ n ↔ zs.any (fun x => !isFr x) = true) ∧ Chg NoB w w'
theorem any_snoc (zs : List Int) (k : Nat) (hk : k < zs.length) (p : Int → Bool) : (zs.take (k + 1)).any p = ((zs.take k).any p || p (zs.getD k 0)) := by
  rw [take_succ_getD zs k hk, List.any_append]; simp
set_option maxHeartbeats 1000000 in
theorem ixf_any (A : Option Addr) (c : Nat) (zs : List Int) (w : World) (hr : Rd w .i64 A zs) :
    Calls Try.prog 36 #[.slice A zs.length c, .func (.func 21) #[] #[]] w (ContPost zs w) := by
  have hlen := hr.1
  have eg : ∀ args w, (callFunc 21 args).run Try.prog w = .ok (.enter 21 args) w := enters_of Try.func21 (by kernel_rfl) rfl
  have hw := fun x W => wrong_any x W
  unfold FnGives at hw
  simp only [Array.append_empty] at hw
  have hB : ContRel zs w (.int .i64 0) w := ⟨0, Nat.zero_le _, rfl, by simp, Chg.refl _ _⟩
  obtain ⟨n, hn⟩ : ∃ n, n = zs.length := ⟨_, rfl⟩
  have HN := Lib.hid hn
  have H := Lib.hid hr
  rw [← hn] at hlen ⊢
  clear hr hn
  go_enter Try.func36, Try.ntmps36
  go_wp2_with fail
  go_loopw [8] (fun i wr => ContRel zs w i wr) (fun i wr => n - (intOf i).toNat)
  case atStart => exact hB
  case round =>
    clear hB
    obtain ⟨k, hk, rfl, hf, hC⟩ := hrel
    rcases Nat.eq_or_lt_of_le hk with hk2 | hk2
    · have e0 : decide ((k : Int) < (n : Int)) = false := decide_eq_false (by rw [HN.out]; omega)
      have e1 : decide (k < n) = false := decide_eq_false (by rw [HN.out]; omega)
      have F := Lib.hid (show ContPost zs w (.returned (.int .i64 (-1))) wr from ⟨-1, rfl, ⟨fun e => by omega, fun e => by rw [hk2, List.take_length] at hf; rw [hf] at e; cases e⟩, hC⟩)
      clear hf hC hk hk2
      go_wp2_with fail
      go_ret
      exact F.out
    · have e0 : decide ((k : Int) < (n : Int)) = true := decide_eq_true (by rw [HN.out]; omega)
      have e1 : decide (k < n) = true := decide_eq_true (by rw [HN.out]; omega)
      have i1 : (k : Int) < (n : Int) := by rw [HN.out]; omega
      have i2 : k < n := by rw [HN.out]; omega
      obtain ⟨ad, rfl, hcell⟩ := H.out.at_ k hk2
      have x0 := hC.cell hcell (fun x => x)
      have hs := any_snoc zs k hk2 (fun x => !isFr x)
      rw [hf, Bool.false_or] at hs
      have hcl := hw (zs.getD k 0) wr
      have hms := Lib.hid (show n - ((k : Int) + 1).toNat < n - (k : Int).toNat by rw [HN.out]; omega)
      cases hb : !isFr (zs.getD k 0) with
      | true =>
        rw [hb] at hs hcl
        have F := Lib.hid (show ∀ q, ContPost zs w (.returned (.int .i64 (k : Int))) (wr.drewN q) from fun q => ⟨_, rfl, ⟨fun _ => by
          rw [List.any_eq_true] at hs ⊢
          obtain ⟨x, hx, hy⟩ := hs
          exact ⟨x, List.mem_of_mem_take hx, hy⟩, fun _ => by omega⟩, hC.trans ((Chg.refl NoB wr).drewN q) (fun _ _ x => x)⟩)
        clear hf hC hk hk2 hs hcell hb hw
        generalize zs.getD k 0 = z at *
        go_wp2_with (go_at_call 21; refine hcl.mono ?_; rintro e w' ⟨rfl, q, rfl⟩)
        go_ret
        exact F.out q
      | false =>
        rw [hb] at hs hcl
        have F := Lib.hid (show ∀ q, ContRel zs w (.int .i64 ((k : Int) + 1)) (wr.drewN q) from fun q => ⟨k + 1, hk2, rfl, hs, hC.trans ((Chg.refl NoB wr).drewN q) (fun _ _ x => x)⟩)
        clear hf hC hk hk2 hs hcell hb hw
        generalize zs.getD k 0 = z at *
        go_wp2_with (go_at_call 21; refine hcl.mono ?_; rintro e w' ⟨rfl, q, rfl⟩)
        exact ⟨F.out q, hms.out⟩
theorem cont_any (A : Option Addr) (c : Nat) (zs : List Int) (w : World) (hr : Rd w .i64 A zs) :
    Calls Try.prog 23 #[.slice A zs.length c, .func (.func 21) #[] #[]] w fun e w' => e = .returned (.bool (zs.any (fun x => !isFr x))) ∧ Chg NoB w w' := by
  have hi := ixf_any A c zs w hr
  clear hr
  generalize zs.length = n at *
  go_enter Try.func23, Try.ntmps23
  go_wp2_with fail
  refine hi.mono ?_
  rintro e w1 ⟨m, rfl, hm, hC⟩
  clear hi
  have hd : decide (0 ≤ m) = zs.any (fun x => !isFr x) := by
    rw [Bool.eq_iff_iff, decide_eq_true_eq]; exact hm
  clear hm
  go_wp2_with fail
  go_ret
  exact ⟨by rw [← hd]; rfl, hC⟩
theorem info_int : (Try.prog.info? 3).map (fun i => (i.zero, i.size, i.bytes)) = some (some (.int .i64 0), 1, 8) := by kernel_rfl
theorem one_i64 (l : List Int) : ∀ v ∈ l.map (Value.int .i64), v.oneCell' = true := by
  intro v hv
  obtain ⟨x, _, rfl⟩ := List.mem_map.mp hv
  rfl
theorem rd_srcI {w : World} {A : Option Addr} {l : List Int} (h : Rd w .i64 A l) : 0 < (l.map (Value.int .i64)).length → ∃ ad, A = some ad ∧ ∀ j v, (l.map (Value.int .i64))[j]? = some v → w.cell? (ad.add j) = some v := by
  intro hl
  rw [List.length_map] at hl
  obtain ⟨ad, e, hc⟩ := h.2 hl
  refine ⟨ad, e, fun j v hv => ?_⟩
  have hj : j < l.length := by
    have := (List.getElem?_eq_some_iff.1 hv).1
    rwa [List.length_map] at this
  rw [hc j hj]
  simp [hj] at hv
  simp [hj, hv]
def CloneI (l : List Int) (w : World) (e : Ending) (w' : World) : Prop :=
  ∃ v, e = .returned v ∧ w'.ownsRow w.heap.size 3 1 v l.length (l.map (Value.int .i64)) ∧ Chg NoB w w'
theorem cloneI_nil (w : World) : Calls Try.prog 26 #[.slice none 0 0] w (CloneI [] w) := by
  have hq := fun (w : World) => Lib.run_eql_slice_nil (P := Try.prog) w 29 3 none 0 0 0 0 Try.underlying29
  go_enter Try.func26, Try.ntmps26
  go_wp2
  go_ret
  exact ⟨_, rfl, World.ownsRow_nil _ _ _ _, Chg.refl _ _⟩
set_option maxHeartbeats 2000000 in
theorem cloneI_some (ad : Addr) (l : List Int) (c : Nat) (w : World) (h : Rd w .i64 (some ad) l) (hl : l.length ≤ 100000) : Calls Try.prog 26 #[.slice (some ad) l.length c] w (CloneI l w) := by
  have hq := fun (w : World) => Lib.run_eql_slice_nil (P := Try.prog) w 29 3 (some ad) l.length c 0 0 Try.underlying29
  have hlen := h.1
  have hown : (w.alloc (.cells #[] 3)).ownsRow w.heap.size 3 1 (.slice (some ⟨w.heap.size, 0, none⟩) 0 0) 0 [] := World.ownsRow_made w _ 0 (Nat.le_refl _) (by unfold maxLen; omega) rfl
  have hC : Chg NoB w (w.alloc (.cells #[] 3)) := (Chg.refl _ _).alloc _
  have h' : Rd (w.alloc (.cells #[] 3)) .i64 (some ad) l := h.chg hC (fun _ _ _ x => x)
  have hll : (l.map (Value.int .i64)).length = l.length := List.length_map ..
  have hx : ∀ a : Act, a.eval (.tmp 6) = .slice (some ad) l.length c → a.eval (.tmp 6) = .slice (some ad) (l.map (Value.int .i64)).length c := fun a e => by rw [hll]; exact e
  have HX := Lib.hid hx
  clear hx
  go_enter Try.func26, Try.ntmps26
  go_wp2_with (first | (at_builtin; refine append_src (w0 := w) (S := NoB) rfl (.tmp 5) (.tmp 6) 29 3 rfl (.int .i64 0) 8 Try.underlying29 info_int rfl (.slice (some ⟨w.heap.size, 0, none⟩) 0 0) 0 [] rfl hC hown (l.map (Value.int .i64)) (some ad) c (HX.out _ rfl) (fun e => by cases e) (rd_srcI h') (one_i64 l) (by omega) (by omega) ?_; intro v' w1 hown' hC'))
  rw [List.nil_append, Nat.zero_add, hll] at hown'
  go_ret
  exact ⟨_, rfl, hown', hC'⟩
theorem look_at {w : World} {bm K : Nat} {M : Int → Option Value} {bad : Nat → Bool} (h : Hp.MapAt w bm M) (hM : MapOk M bad K) (x : Int) :
    ∃ c0 : Nat, decide (0 < (c0 : Int)) = (M x).isSome ∧ (Instr.lookup 51 (.map (some bm)) (.int .i64 x) false).run Try.prog w = .ok (.int .i64 (c0 : Int)) w := by
  cases e : M x with
  | none => exact ⟨0, by simp, run_lookup_none 51 3 3 Try.underlying51 Try.underlying3 h x e _ (Try.zeroValue3 w) false⟩
  | some v =>
    obtain ⟨c, rfl, h1, h2, _⟩ := hM.1 _ _ e
    exact ⟨c, by simp; omega, run_lookup_some 51 3 3 Try.underlying51 Try.underlying3 h x _ e false⟩
theorem known_any {W : World} {r j bm K B : Nat} {x : RSt} {M : Int → Option Value} {T : Nat} (z : Int) (hB : Blk W B #[.pointer (some ⟨r, 0, none⟩)] T) (hR : RB W r j bm x.st) (h : Hp.MapAt W bm M) (hM : MapOk M x.bad K) :
    FnGives Try.prog 24 #[.pointer (some ⟨B, 0, none⟩)] #[.int .i64 z] (.bool (M z).isSome) W := by
  show Calls Try.prog 24 #[.int .i64 z, .pointer (some ⟨B, 0, none⟩)] W _
  obtain ⟨c0, hd, hlk⟩ := look_at h hM z
  obtain ⟨_, z1⟩ := hR.two
  have z2 : W.cell? ⟨B, 0, none⟩ = some (.pointer (some ⟨r, 0, none⟩)) := by rw [bcell hB]; rfl
  clear hB hR h hM
  rw [← hd]
  clear hd
  go_enter Try.func24, Try.ntmps24
  go_wp2_with (first | (with_reducible refine lookup_at rfl 51 _ _ false rfl (.map (some bm)) (.int .i64 z) _ rfl rfl hlk ?_))
  go_ret
  exact ⟨by simp, 0, rfl⟩
theorem sort_chg {α : Type} [Inhabited α] (enc : α → Value) (w : World) (g off q : Nat) (d : Array α) (os : Array Obj) : Chg (· = g) w (sortWorld enc w g off q d os) := by
  have hs : (putRow enc (Sort.ahead w q) g off d).heap.size = w.heap.size := by rw [size_putRow]; rfl
  refine ⟨rfl, rfl, rfl, ?_, fun k hk hn => ?_⟩
  · show w.heap.size ≤ ((putRow enc (Sort.ahead w q) g off d).heap ++ os).size
    rw [Array.size_append, hs]; omega
  · show ((putRow enc (Sort.ahead w q) g off d).heap ++ os)[k]? = _
    rw [Array.getElem?_append_left (by rw [hs]; exact hk)]
    show (w.heap.modify g _)[k]? = _
    rw [Array.getElem?_modify, if_neg (fun e => hn e.symm)]
theorem putRow_chg {α : Type} [Inhabited α] (enc : α → Value) (w : World) (g off q : Nat) (d : Array α) : Chg (· = g) w (putRow enc (Sort.ahead w q) g off d) :=
  ⟨rfl, rfl, rfl, by rw [size_putRow]; exact Nat.le_refl _, fun k _ hk => by
    show (w.heap.modify g _)[k]? = _
    rw [Array.getElem?_modify, if_neg (fun e => hk e.symm)]⟩
theorem putRow_blk {α : Type} [Inhabited α] (enc : α → Value) (w : World) (g off q : Nat) (d : Array α) : (putRow enc (Sort.ahead w q) g off d).heap[g]? = (w.heap[g]?).map (onCells (putCells enc off d)) := by
  show (w.heap.modify g _)[g]? = _
  rw [Array.getElem?_modify, if_pos rfl]
theorem putRow_own {α : Type} [Inhabited α] (enc : α → Value) (w : World) (base g cap q n m : Nat) (e : TypeId) (xs : List Value) (d : Array α) (ys : List α) (h : w.ownsRow base e 1 (.slice (some ⟨g, 0, none⟩) n cap) n xs) (hd : d.size = n) (hm : m ≤ n) (hy : d.toList.take m = ys) :
    (putRow enc (Sort.ahead w q) g 0 d).ownsRow base e 1 (.slice (some ⟨g, 0, none⟩) m cap) m (ys.map enc) := by
  rcases h.2 with ⟨h', _⟩ | ⟨g', cap', cur, h', hb, hg, hnc, hcm, hcs, htake⟩
  · simp at h'
  · simp only [Value.slice.injEq, Option.some.injEq, Addr.mk.injEq, and_true, true_and] at h'
    obtain ⟨rfl, rfl⟩ := h'
    have hl : ys.length = m := by rw [← hy, List.length_take]; simp; omega
    refine ⟨by simp [hl], .inr ⟨g, cap, putCells enc 0 d cur, rfl, hb, ?_, by omega, hcm, by simp [putCells, hcs], ?_⟩⟩
    · rw [putRow_blk, hg]; rfl
    · rw [← hy]
      apply List.ext_getElem
      · simp [putCells, hcs]; omega
      · intro i h1 h2
        simp only [List.length_map, List.length_take, Array.length_toList] at h2
        have hi : i < d.size := by omega
        simp [putCells, hi]
/-- what is new of a list -/
def newF (M : Int → Option Value) (zs : List Int) : List Int := zs.filter (fun z => !(M z).isSome)
def DelI (w : World) (base : Nat) (l : List Int) (e : Ending) (w' : World) : Prop := ∃ v, e = .returned v ∧ w'.ownsRow base 3 1 v l.length (l.map (Value.int .i64)) ∧ Chg (fun i => base ≤ i) w w'
theorem own_someI {w : World} {base n : Nat} {v : Value} {L : List Value} (h : w.ownsRow base 3 1 v n L) (hn : n ≠ 0) : ∃ g c, v = .slice (some ⟨g, 0, none⟩) n c ∧ base ≤ g ∧ n ≤ c := by
  rcases h.2 with ⟨rfl, h0⟩ | ⟨g, cap, cur, rfl, hb, _, h1, _⟩
  · exact absurd h0 hn
  · exact ⟨g, cap, rfl, hb, h1⟩
theorem own_formI {w : World} {base n : Nat} {v : Value} {L : List Value} (h : w.ownsRow base 3 1 v n L) : ∃ A c, v = .slice A n c := by
  rcases h.2 with ⟨rfl, h0⟩ | ⟨g, cap, cur, rfl, hb, _, h1, _⟩
  · exact ⟨none, 0, by rw [h0]⟩
  · exact ⟨_, cap, rfl⟩
theorem delI_none {w : World} {base : Nat} {v : Value} (fv : Value) (h : w.ownsRow base 3 1 v 0 []) :
    Calls Try.prog 25 #[v, fv] w (DelI w base []) := by
  obtain ⟨A, c, rfl⟩ := own_formI h
  have hcon := AnyE.slices_IndexFunc_empty (ρ := Try.delA_ren) { Try.delA with } A c fv w
  change Calls Try.prog 36 _ _ _ at hcon
  have H := Lib.hid h
  clear h
  go_enter Try.func25, Try.ntmps25
  go_wp2_with fail
  refine hcon.mono ?_
  rintro e w1 ⟨rfl, rfl⟩
  clear hcon
  go_wp2_with fail
  go_ret
  exact ⟨_, rfl, H.out, Chg.refl _ _⟩
theorem delI_any {w : World} {base B r j bm K : Nat} {v : Value} {zs : List Int} {x : RSt} {M : Int → Option Value} {T : Nat} (h : w.ownsRow base 3 1 v zs.length (zs.map (Value.int .i64))) (hB : Blk w B #[.pointer (some ⟨r, 0, none⟩)] T) (hR : RB w r j bm x.st) (hMa : Hp.MapAt w bm M) (hM : MapOk M x.bad K) (hlt : B < base ∧ r < base ∧ bm < base) (hlen : zs.length ≤ 1024) :
    Calls Try.prog 25 #[v, .func (.func 24) #[] #[.pointer (some ⟨B, 0, none⟩)]] w (DelI w base (newF M zs)) := by
  by_cases hn : zs.length = 0
  · have hz : zs = [] := List.eq_nil_of_length_eq_zero hn
    subst hz
    exact delI_none _ h
  · obtain ⟨g, c, rfl, hg, hcn⟩ := own_someI h hn
    have eg : ∀ args w, (callFunc 24 args).run Try.prog w = .ok (.enter 24 args) w := enters_of Try.func24 (by kernel_rfl) rfl
    have kn : ∀ (S : Nat → Prop) W z, Chg S w W → ¬ S B → ¬ S r → ¬ S bm → FnGives Try.prog 24 #[.pointer (some ⟨B, 0, none⟩)] #[.int .i64 z] (.bool (M z).isSome) W := fun S W z hc h1 h2 h3 => known_any z (hc.blk hB h1) (hR.chg hc h2) (hMa.chg hc h3) hM
    have hH : Sort.Holds (Value.int .i64) w g 0 zs.toArray := fun j hj => by
      have hj2 : j < zs.length := by simpa using hj
      refine ⟨?_, h.frozenAt _⟩
      rw [Nat.zero_add, h.cellAt j (by omega)]
      simp [hj2]
    have hs : zs.toArray.size = zs.length := by simp
    have hcon := AnyE.slices_DeleteFunc Try.delA (Value.int .i64) (fun _ => rfl) (fun z => (M z).isSome) 24 #[.pointer (some ⟨B, 0, none⟩)] eg 0 Try.zeroValue3 g 0 c zs.toArray w
      (fun W z hb => kn NoB W z (Chg.of_below hb) (fun e => e) (fun e => e) (fun e => e))
      (fun q os dk z _ => kn (· = g) _ z (sort_chg (Value.int .i64) w g 0 q dk os) (fun (e : B = g) => by omega) (fun (e : r = g) => by omega) (fun (e : bm = g) => by omega)) hH (by omega) (by omega)
    change Calls Try.prog 25 _ _ _ at hcon
    rw [hs] at hcon
    refine hcon.mono ?_
    rintro e w' ⟨rfl, q, rfl⟩
    have hle : (newF M zs).length ≤ zs.length := List.length_filter_le _ _
    refine ⟨_, rfl, ?_, (putRow_chg _ _ _ _ _ _).mono (fun i _ x => ?_)⟩
    · refine putRow_own _ _ base g c q zs.length _ _ _ _ _ h ?_ hle ?_
      · show (newF M zs ++ List.replicate (zs.length - (newF M zs).length) 0).toArray.size = _
        rw [List.size_toArray, List.length_append, List.length_replicate]; omega
      · show (newF M zs ++ List.replicate (zs.length - (newF M zs).length) 0).take (newF M zs).length = _
        rw [List.take_left]
    · have : i = g := x
      omega
end Go.Proofs.YtolojkfpokmdkaaRR.Reg
