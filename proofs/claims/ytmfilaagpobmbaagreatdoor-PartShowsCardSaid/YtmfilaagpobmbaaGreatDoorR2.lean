/- A part of the proof of a seat of parts: R2, F1p. -/
import Derived.Test.YtmfilaagpobmbaaGreatDoorA5
import Derived.Test.YtmfilaagpobmbaaGreatDoorE5
import Derived.Test.YtmfilaagpobmbaaGreatDoorR0
import Derived.Test.YtmfilaagpobmbaaGreatDoorS5
set_option linter.all false
namespace Go.Proofs.YtmfilaagpobmbaaGreatDoor
set_option maxRecDepth 100000
open Go Go.Abs Go.Deep Go.ChangeShapes Go.WideShapes Go.ChangeAt Go.RowKit
theorem open_rows {α : Type} (enc' : α → List IV) {t e n : Nat} (ht : Tryz.prog.underlying t = some (.slice e)) (hn : Tryz.prog.cellsOf e = n) (hn0 : 0 < n)
    {W : World} {H : Type} {enc : TypeId × Value → H} {sp : Nat → Bool} {held : Bool} {base fuel : Nat} {cs : List Value} {x : DataW H × List MemPlace}
    (hel : ∀ fuel cs x, DataW.trod enc Tryz.prog W base sp held fuel e cs = some x → ∃ a : α, cs.length = n ∧ (enc' a).length = n ∧ ∀ (j : Nat) y u, (enc' a)[j]? = some y → cs[j]? = some u → Rd W (fun b => b < W.heap.size) y u)
    (h : DataW.trod enc Tryz.prog W base sp held fuel t cs = some x) : ∃ (l : List α) (v : Value), cs = [v] ∧ Rd W (fun b => b < W.heap.size) (.lst (l.map enc')) v := by
  rcases open_slice ht h with ⟨hcs, _⟩ | ⟨x, len, cap, m, nn, D, Pl, hcs, hb, hlc, hmax, hm, hx, hel'⟩
  · exact ⟨[], _, hcs, .lst [] none 0 0 n (fun _ _ => undef) rfl (Nat.le_refl _) (fun i e he => by simp at he) (.inl rfl) (fun i j e x he => by simp at he)⟩
  · have hlm : len ≤ m := by rw [hm]; split <;> omega
    refine (fun ⟨l, hl⟩ => ⟨l, _, hcs, hl⟩ : (∃ l : List α, Rd W (fun b => b < W.heap.size) (.lst (l.map enc')) (.slice (some x) len cap)) → _) ?_
    have cellAt : ∀ (a : Addr) (u : Value), W.cell? a = some u → a.block < W.heap.size ∧ W.cell? ⟨a.block, a.off, none⟩ = some u := by
      intro a u hu
      unfold World.cell? at hu ⊢
      cases hh : W.heap[a.block]? with
      | none => rw [hh] at hu; simp at hu
      | some o =>
        rw [hh] at hu
        cases o with
        | cells c ty fz =>
          simp only at hu
          split at hu
          · simp at hu
          · exact ⟨(Array.getElem?_eq_some_iff.1 hh).1, by simpa using hu⟩
        | map => simp at hu
        | _ => simp at hu
    have spot0 : 0 < len → x.spot = none := by
      intro h0
      obtain ⟨cs', h1, h2⟩ := hel' 0 (by omega)
      obtain ⟨q, hq, _, _⟩ := hel _ _ _ h2
      rw [hn] at h1
      obtain ⟨_, _, h3⟩ := World.cells?_some h1
      have c0 := (h3 0 (by omega)).trans (List.getElem?_eq_getElem (show 0 < cs'.length by omega))
      simp only [Nat.zero_mul, Addr.add, if_true] at c0
      unfold World.cell? at c0
      cases hsp : x.spot with
      | none => rfl
      | some z =>
        rw [hsp] at c0
        split at c0
        · simp at c0
        · simp at c0
    have key : ∀ i : Nat, i < len → ∃ a : α, (enc' a).length = n ∧ x.block < W.heap.size ∧ ∀ j, j < n → ∃ u, W.cell? ⟨x.block, x.off + (i * n + j), none⟩ = some u ∧ ∀ y, (enc' a)[j]? = some y → Rd W (fun b => b < W.heap.size) y u := by
      intro i hi
      obtain ⟨cs', h1, h2⟩ := hel' i (by omega)
      obtain ⟨q, hq, hql, hqr⟩ := hel _ _ _ h2
      rw [hn] at h1
      obtain ⟨_, _, h3⟩ := World.cells?_some h1
      have hadd : ∀ j, ((x.add (i * n)).add j).block = x.block ∧ ((x.add (i * n)).add j).off = x.off + (i * n + j) := by
        intro j
        unfold Addr.add
        split <;> split <;> simp <;> omega
      have hc : ∀ j, j < n → ∃ u, cs'[j]? = some u ∧ x.block < W.heap.size ∧ W.cell? ⟨x.block, x.off + (i * n + j), none⟩ = some u := by
        intro j hj
        have hcj : cs'[j]? = some cs'[j] := List.getElem?_eq_getElem (by omega)
        have c0 := cellAt _ _ ((h3 j hj).trans hcj)
        rw [(hadd j).1, (hadd j).2] at c0
        exact ⟨_, hcj, c0.1, c0.2⟩
      refine ⟨q, hql, (hc 0 hn0).choose_spec.2.1, fun j hj => ?_⟩
      obtain ⟨u, hu1, _, hu2⟩ := hc j hj
      exact ⟨u, hu2, fun y hy => hqr j y u hy hu1⟩
    by_cases h0 : len = 0
    · subst h0
      exact ⟨[], .lst [] (some x) 0 cap n (fun _ _ => undef) rfl (Nat.zero_le _) (fun i e he => by simp at he) (.inl rfl) (fun i j e x he => by simp at he)⟩
    · have key' : ∀ i : Fin len, ∃ a : α, (enc' a).length = n ∧ x.block < W.heap.size ∧ ∀ j, j < n → ∃ u, W.cell? ⟨x.block, x.off + (i.val * n + j), none⟩ = some u ∧ ∀ y, (enc' a)[j]? = some y → Rd W (fun b => b < W.heap.size) y u := fun i => key i.val i.isLt
      let Q : Fin len → α := fun i => Classical.choose (key' i)
      have hQ := fun i => Classical.choose_spec (key' i)
      have hx : x = ⟨x.block, x.off, none⟩ := by have := spot0 (by omega); cases x; simp_all
      have hget : ∀ (i : Nat) e, (((List.finRange len).map Q).map enc')[i]? = some e → ∃ hi : i < len, e = enc' (Q ⟨i, hi⟩) := by
        intro i e he
        simp only [List.getElem?_map] at he
        by_cases hi : i < len
        · rw [List.getElem?_eq_getElem (by simpa using hi)] at he
          simp only [List.getElem_finRange, Option.map_some, Option.some.injEq] at he
          exact ⟨hi, he.symm⟩
        · rw [List.getElem?_eq_none (by simp; omega)] at he
          simp at he
      refine ⟨(List.finRange len).map Q, .lst _ (some x) len cap n (fun i j => (W.cell? ⟨x.block, x.off + (i * n + j), none⟩).getD undef) (by simp) hlc (fun i e he => ?_) (.inr ⟨x.block, x.off, by rw [← hx], (hQ ⟨0, by omega⟩).2.1, fun i j hi hj => ?_⟩) (fun i j e y he hy => ?_)⟩
      · obtain ⟨hi, rfl⟩ := hget i e he; exact (hQ ⟨i, hi⟩).1
      · have hi : i < len := by simpa using hi
        obtain ⟨u, hu, _⟩ := (hQ ⟨i, hi⟩).2.2 j hj
        simp only at hu ⊢
        rw [hu]; rfl
      · obtain ⟨hi, rfl⟩ := hget i e he
        have hjn : j < n := by
          have := (List.getElem?_eq_some_iff.1 hy).1
          have h2 := (hQ ⟨i, hi⟩).1
          show j < n
          rw [← h2]; exact this
        obtain ⟨u, hu, hr⟩ := (hQ ⟨i, hi⟩).2.2 j hjn
        simp only at hu ⊢
        rw [hu]
        exact hr y hy
abbrev Act' := Int × ByteArray × ByteArray
def acR (a : Act') : List IV := [.int .i64 a.1, .str a.2.1, .str a.2.2]
def acL (l : List Act') : List (List IV) := l.map fun a => [.int .i64 a.1, .str a.2.1, .str a.2.2]
theorem c3 : Tryz.prog.cellsOf 3 = 1 := by kernel_rfl
theorem c9 : Tryz.prog.cellsOf 9 = 1 := by kernel_rfl
theorem open_acts {W : World} {H : Type} {enc : TypeId × Value → H} {sp : Nat → Bool} {held : Bool} {r : Reach} {b0 : Nat} {v : Value} {d : DataW H} {ps : List MemPlace} (hval : Value.okWide Tryz.prog W r b0 37 v) (h : DataW.Trod enc Tryz.prog W 0 sp held 37 v d ps) :
    ∃ l : List Act', Rd W (fun b => b < W.heap.size) (.lst (acL l)) v := by
  obtain ⟨a, len, cap, rfl⟩ := okWide_slice Tryz.underlying37 hval
  obtain ⟨fuel, hf⟩ := h
  obtain ⟨l, v', hv, hr⟩ := open_rows (fun a : Act' => [.int .i64 a.1, .str a.2.1, .str a.2.2]) Tryz.underlying37 (show Tryz.prog.cellsOf 92 = 3 by kernel_rfl) (by decide) (fun fuel cs x h => by
    obtain ⟨y0, y1, y2, n, _, hl, h0, h1, h2⟩ := trod_struct3 Tryz.underlying92 h
    obtain ⟨a, e0, _⟩ := DataW.trod_int Tryz.underlying3 h0
    obtain ⟨b, e1, _⟩ := DataW.trod_string Tryz.underlying9 h1
    obtain ⟨c, e2, _⟩ := DataW.trod_string Tryz.underlying9 h2
    rw [show Tryz.prog.cellsOf 92 = 3 by kernel_rfl] at hl
    rw [c3] at e0
    rw [c9] at e1 e2
    match cs, hl with
    | [u, v, w], _ =>
      simp at e0 e1 e2
      subst e0 e1 e2
      refine ⟨(a, b, c), rfl, rfl, fun j y u hy hu => ?_⟩
      match j, hy, hu with
      | 0, hy, hu => obtain rfl := Option.some.inj hy; obtain rfl := Option.some.inj hu; exact .int _ _
      | 1, hy, hu => obtain rfl := Option.some.inj hy; obtain rfl := Option.some.inj hu; exact .str _
      | 2, hy, hu => obtain rfl := Option.some.inj hy; obtain rfl := Option.some.inj hu; exact .str _) hf
  simp [Value.cells] at hv
  subst hv
  exact ⟨l, hr⟩
/-- what is asked: keys and prefixes -/
theorem open_asked {W : World} {H : Type} {enc : TypeId × Value → H} {sp : Nat → Bool} {held : Bool} {r : Reach} {b0 : Nat} {v : Value} {d : DataW H} {ps : List MemPlace} (hval : Value.okWide Tryz.prog W r b0 41 v) (h : DataW.Trod enc Tryz.prog W 0 sp held 41 v d ps) :
    ∃ (ks : List ByteArray) (us : List UP), AVR W (ghW W) (.agg [.imm (.lst (sv ks)), .imm (.lst (uv us))]) v := by
  obtain ⟨cs, rfl, hsz⟩ := okWide_struct Tryz.underlying41 hval
  obtain ⟨fuel, hf⟩ := h
  obtain ⟨y0, y1, n, _, hl, h0, h1⟩ := trod_struct2 Tryz.underlying41 hf
  obtain ⟨ks, v0, e0, r0⟩ := open_rows (fun a : ByteArray => [IV.str a]) Tryz.underlying38 c9 (by decide) (fun fuel cs x h => by
    obtain ⟨b, e1, _⟩ := DataW.trod_string Tryz.underlying9 h
    refine ⟨b, by rw [e1]; rfl, rfl, fun j y u hy hu => ?_⟩
    rw [e1] at hu
    match j, hy, hu with
    | 0, hy, hu => obtain rfl := Option.some.inj hy; obtain rfl := Option.some.inj hu; exact .str _) h0
  obtain ⟨us, v1, e1, r1⟩ := open_rows (fun p : UP => [IV.str p.1, IV.int .i64 p.2]) Tryz.underlying39 (show Tryz.prog.cellsOf 61 = 2 by kernel_rfl) (by decide) (fun fuel cs x h => by
    obtain ⟨y0, y1, n, _, hl, h0, h1⟩ := trod_struct2 Tryz.underlying61 h
    obtain ⟨b, e1, _⟩ := DataW.trod_string Tryz.underlying9 h0
    obtain ⟨a, e0, _⟩ := DataW.trod_int Tryz.underlying3 h1
    rw [show Tryz.prog.cellsOf 61 = 2 by kernel_rfl] at hl
    rw [c3] at e0
    rw [c9] at e1
    match cs, hl with
    | [u, v], _ =>
      simp at e0 e1
      subst e0 e1
      refine ⟨(b, a), rfl, rfl, fun j y u hy hu => ?_⟩
      match j, hy, hu with
      | 0, hy, hu => obtain rfl := Option.some.inj hy; obtain rfl := Option.some.inj hu; exact .str _
      | 1, hy, hu => obtain rfl := Option.some.inj hy; obtain rfl := Option.some.inj hu; exact .int _ _) h1
  have c41 : Tryz.prog.cellsOf 41 = 2 := by kernel_rfl
  have c38 : Tryz.prog.cellsOf 38 = 1 := by kernel_rfl
  have c39 : Tryz.prog.cellsOf 39 = 1 := by kernel_rfl
  rw [c41] at hl
  rw [c38] at e0
  rw [c39] at e1
  have hcl : (Value.agg cs).cells.toList = cs.toList := rfl
  rw [hcl] at hl e0 e1
  obtain ⟨p, q, hpq⟩ : ∃ p q, cs.toList = [p, q] := by
    match hc : cs.toList, hl with
    | [p, q], _ => exact ⟨p, q, rfl⟩
  rw [hpq] at e0 e1
  simp at e0 e1
  subst e0 e1
  exact ⟨ks, us, cs, rfl, by rw [hpq]; exact L2.cons r0 (L2.cons r1 L2.nil)⟩
end Go.Proofs.YtmfilaagpobmbaaGreatDoor

namespace Go.Proofs.YtmfilaagpobmbaaGreatDoor
open Go Go.Abs
theorem acL_len (l : List Act') : (acL l).length = l.length := by simp [acL]
theorem acL_get (l : List Act') (i : Nat) (h : i < l.length) : (acL l)[i]? = some [.int .i64 l[i].1, .str l[i].2.1, .str l[i].2.2] := by simp [acL, h]
def okAct (a : Act') : Prop := a.2.1.size ≤ 100 ∧ a.2.2.size ≤ 100
instance (a : Act') : Decidable (okAct a) := by unfold okAct; infer_instance
def small (l : List Act') (n : Nat) : Prop := l.length ≤ n ∧ ∀ a ∈ l, okAct a
set_option maxRecDepth 100000 in
theorem c_SmallT (l : List Act') (n : Nat) (hn : n < 1000) (h : small l n) (K) (hk : K (.i (.bool true)) []) : SP 15 [.i (.lst (acL l)), .i (.int .i64 (n : Int))] [] K := by
  have hl := acL_len l
  have hg := acL_get l
  have h1 := h.1
  generalize acL l = L at hl hg ⊢
  refine mk {keep := [(4, [11,12,13])]} (fn := Tryz.f15) Tryz.func15 (by kernel_rfl) (by kernel_rfl) (Nat.le_of_ble_eq_true (Eq.refl true)) fun S hS => ?_
  conv => whnf
  rw [decide_eq_false (show ¬ ((L.length : Int) > (n : Int)) by omega)]
  conv => whnf
  intro X hX
  have go : ∀ (d i : Nat), i + d = l.length → frK (kfr 28 [(11, .i (.lst L)), (12, .i (.int .i64 (L.length : Int))), (13, .i (.int .i64 (i : Int)))] []) X := by
    intro d
    induction d with
    | zero =>
      intro i hi
      conv => whnf
      apply hX
      conv => whnf
      rw [decide_eq_false (show ¬ ((i : Int) < (L.length : Int)) by omega)]
      conv => whnf
      exact hk
    | succ d ih =>
      intro i hi
      have hi' : i < l.length := by omega
      obtain ⟨h2, h3⟩ := h.2 l[i] (List.getElem_mem hi')
      conv => whnf
      apply hX
      conv => whnf
      rw [decide_eq_true (show (i : Int) < (L.length : Int) by omega)]
      conv => whnf
      refine ⟨_, by omega, hg i hi', rfl, ?_⟩
      conv => whnf
      rw [decide_eq_false (show ¬ ((l[i].2.1.size : Int) > 100) by omega)]
      conv => whnf
      rw [decide_eq_false (show ¬ ((l[i].2.2.size : Int) > 100) by omega)]
      conv => whnf
      rw [show (i : Int) + 1 = ((i + 1 : Nat) : Int) by omega, i64n _ (by omega)]
      exact ih (i + 1) (by omega)
  exact go l.length 0 (by omega)
set_option maxRecDepth 100000 in
theorem c_SmallF (l : List Act') (n : Nat) (hn : n < 1000) (h : ¬ small l n) (K) (hk : K (.i (.bool false)) []) : SP 15 [.i (.lst (acL l)), .i (.int .i64 (n : Int))] [] K := by
  have hl := acL_len l
  have hg := acL_get l
  generalize acL l = L at hl hg ⊢
  refine mk {keep := [(4, [11,12,13])]} (fn := Tryz.f15) Tryz.func15 (by kernel_rfl) (by kernel_rfl) (Nat.le_of_ble_eq_true (Eq.refl true)) fun S hS => ?_
  conv => whnf
  by_cases h1 : l.length ≤ n
  · rw [decide_eq_false (show ¬ ((L.length : Int) > (n : Int)) by omega)]
    conv => whnf
    intro X hX
    have go : ∀ (d i : Nat), i + d = l.length → (∃ a ∈ l.drop i, ¬ okAct a) → frK (kfr 28 [(11, .i (.lst L)), (12, .i (.int .i64 (L.length : Int))), (13, .i (.int .i64 (i : Int)))] []) X := by
      intro d
      induction d with
      | zero =>
        intro i hi hex
        rw [List.drop_eq_nil_of_le (by omega)] at hex
        obtain ⟨a, ha, _⟩ := hex
        simp at ha
      | succ d ih =>
        intro i hi hex
        have hi' : i < l.length := by omega
        conv => whnf
        apply hX
        conv => whnf
        rw [decide_eq_true (show (i : Int) < (L.length : Int) by omega)]
        conv => whnf
        refine ⟨_, by omega, hg i hi', rfl, ?_⟩
        conv => whnf
        by_cases h2 : l[i].2.1.size ≤ 100
        · rw [decide_eq_false (show ¬ ((l[i].2.1.size : Int) > 100) by omega)]
          conv => whnf
          by_cases h3 : l[i].2.2.size ≤ 100
          · rw [decide_eq_false (show ¬ ((l[i].2.2.size : Int) > 100) by omega)]
            conv => whnf
            rw [show (i : Int) + 1 = ((i + 1 : Nat) : Int) by omega, i64n _ (by omega)]
            refine ih (i + 1) (by omega) ?_
            obtain ⟨a, ha, hb⟩ := hex
            rw [List.drop_eq_getElem_cons hi', List.mem_cons] at ha
            rcases ha with rfl | ha
            · exact absurd ⟨h2, h3⟩ hb
            · exact ⟨a, ha, hb⟩
          · rw [decide_eq_true (show (l[i].2.2.size : Int) > 100 by omega)]
            conv => whnf
            exact hk
        · rw [decide_eq_true (show (l[i].2.1.size : Int) > 100 by omega)]
          conv => whnf
          exact hk
    refine go l.length 0 (by omega) ?_
    simp only [small, not_and, Classical.not_forall] at h
    obtain ⟨a, ha, hb⟩ := h h1
    exact ⟨a, by simpa using ha, hb⟩
  · rw [decide_eq_true (show (L.length : Int) > (n : Int) by omega)]
    conv => whnf
    exact hk

def step (t : T) (a : Act') : T := if a.1 = 1 then (t.drop (lawKey a.2.1)).1 else (t.put (lawKey a.2.1) a.2.2).1
def made (l : List Act') : T := l.foldl step .nil
theorem step_good {t : T} (h : t.good) {a : Act'} (ha : okAct a) : (step t a).good ∧ (step t a).pairs.length ≤ t.pairs.length + 1 := by
  unfold step
  split
  · obtain ⟨g, _, l, _⟩ := T.drop_spec (lawKey_size a.2.1) h
    exact ⟨g, by omega⟩
  · obtain ⟨g, _, _, l⟩ := T.put_spec (lawKey_size a.2.1) (show a.2.2.size < 1073741824 by have := ha.2; omega) h
    exact ⟨g, by rw [l]; split <;> omega⟩
theorem fold_good : ∀ (l : List Act') {t : T} (_ : t.good) (_ : ∀ a ∈ l, okAct a), (l.foldl step t).good ∧ (l.foldl step t).pairs.length ≤ t.pairs.length + l.length
  | [], t, h, _ => ⟨h, Nat.le_refl _⟩
  | a :: l, t, h, hs => by
    obtain ⟨h1, h2⟩ := step_good h (hs a (by simp))
    obtain ⟨h3, h4⟩ := fold_good l h1 (fun b hb => hs b (by simp [hb]))
    exact ⟨h3, by simp only [List.foldl_cons, List.length_cons]; omega⟩
set_option maxRecDepth 100000 in
theorem c_Made (l : List Act') (n : Nat) (hn : n < 1000) (h : small l n) (K) (hk : ∀ t, t = made l → K (.tup [.i (tr t), .i (.lst (pl t.pairs))]) []) : SP 16 [.i (.lst (acL l))] [] K := by
  have hl := acL_len l
  have hg := acL_get l
  have h1 := h.1
  generalize acL l = L at hl hg ⊢
  refine mk {keep := [(4, [4,5,10,11,12])]} (fn := Tryz.f16) Tryz.func16 (by kernel_rfl) (by kernel_rfl) (Nat.le_of_ble_eq_true (Eq.refl true)) fun S hS => ?_
  conv => whnf
  refine hS _ _ _ _ <| c_New _ ?_
  conv => whnf
  intro X hX
  have go : ∀ (d i : Nat), i + d = l.length → ∀ (t : T) (w : AV), t.good → t.pairs.length ≤ i → (l.drop i).foldl step t = made l → WL w t.pairs → frK (kfr 41 [(4, .i (tr t)), (5, w), (10, .i (.lst L)), (11, .i (.int .i64 (L.length : Int))), (12, .i (.int .i64 (i : Int)))] []) X := by
    intro d
    induction d with
    | zero =>
      intro i hi t w ht hlt hf hw
      rw [List.drop_eq_nil_of_le (by omega)] at hf
      have hk := hk t hf
      rcases hw with ⟨rfl, hp⟩ | rfl
      · rw [hp] at hk
        generalize tr t = x at hk ⊢
        conv => whnf
        apply hX
        conv => whnf
        rw [decide_eq_false (show ¬ ((i : Int) < (L.length : Int)) by omega)]
        conv => whnf
        exact hk
      · generalize tr t = x at hk ⊢
        generalize pl t.pairs = y at hk ⊢
        conv => whnf
        apply hX
        conv => whnf
        rw [decide_eq_false (show ¬ ((i : Int) < (L.length : Int)) by omega)]
        conv => whnf
        exact hk
    | succ d ih =>
      intro i hi t w ht hlt hf hw
      have hi' : i < l.length := by omega
      obtain ⟨h2, h3⟩ := h.2 l[i] (List.getElem_mem hi')
      rw [List.drop_eq_getElem_cons hi', List.foldl_cons] at hf
      have hsg := step_good ht (h.2 l[i] (List.getElem_mem hi'))
      have hih := ih (i + 1) (by omega) (step t l[i]) (.i (.lst (pl (step t l[i]).pairs))) hsg.1 (by omega) hf (.inr rfl)
      have ks := lawKey_size l[i].2.1
      have k1 := c_Key l[i].2.1 (show l[i].2.1.size < 1000000000 by omega)
      by_cases hwh : l[i].1 = 1
      · have es : step t l[i] = (t.drop (lawKey l[i].2.1)).1 := by unfold step; rw [if_pos hwh]
        have d1 := c_Del t ht (show t.pairs.length < 1000000000 by omega) (lawKey l[i].2.1) ks
        have d2 := c_rDel w t.pairs hw (show t.pairs.length < 1000000000 by omega) (lawKey l[i].2.1)
        rw [← T.drop_pairs ks ht] at d2
        rw [es] at hih
        generalize (t.drop (lawKey l[i].2.1)).1 = t' at *
        generalize lawKey l[i].2.1 = k at *
        generalize pl t'.pairs = y at *
        generalize tr t' = x' at *
        generalize tr t = x at *
        rcases hw with ⟨rfl, hp⟩ | rfl
        all_goals
          conv => whnf
          apply hX
          conv => whnf
          rw [decide_eq_true (show (i : Int) < (L.length : Int) by omega)]
          conv => whnf
          refine ⟨_, by omega, hg i hi', rfl, ?_⟩
          conv => whnf
          refine hS _ _ _ _ <| k1 _ fun r hr => ?_
          subst hr
          conv => whnf
          rw [show (l[i].1 == 1) = true by simp [hwh]]
          conv => whnf
          refine hS _ _ _ _ <| d1 _ fun r hr => ?_
          subst hr
          conv => whnf
          refine hS _ _ _ _ <| d2 _ ?_
          conv => whnf
          rw [show (i : Int) + 1 = ((i + 1 : Nat) : Int) by omega, i64n _ (by omega)]
          exact hih
      · have es : step t l[i] = (t.put (lawKey l[i].2.1) l[i].2.2).1 := by unfold step; rw [if_neg hwh]
        have hv : l[i].2.2.size < 1073741824 := by omega
        have d1 := c_Put t ht (show t.pairs.length < 1000000000 by omega) (lawKey l[i].2.1) l[i].2.2 ks hv
        have d2 := c_rPut w t.pairs hw (show t.pairs.length < 100000000 by omega) (lawKey l[i].2.1) l[i].2.2 ks
        rw [← T.put_pairs ks hv ht] at d2
        rw [es] at hih
        generalize (t.put (lawKey l[i].2.1) l[i].2.2).1 = t' at *
        generalize lawKey l[i].2.1 = k at *
        generalize pl t'.pairs = y at *
        generalize tr t' = x' at *
        generalize tr t = x at *
        rcases hw with ⟨rfl, hp⟩ | rfl
        all_goals
          conv => whnf
          apply hX
          conv => whnf
          rw [decide_eq_true (show (i : Int) < (L.length : Int) by omega)]
          conv => whnf
          refine ⟨_, by omega, hg i hi', rfl, ?_⟩
          conv => whnf
          refine hS _ _ _ _ <| k1 _ fun r hr => ?_
          subst hr
          conv => whnf
          rw [show (l[i].1 == 1) = false by simp [hwh]]
          conv => whnf
          refine ⟨.i x', hS _ _ _ _ <| d1 _ (fun u hu => ⟨by rw [hu], rfl⟩), rfl, ?_⟩
          conv => whnf
          refine ⟨.i (.lst y), hS _ _ _ _ <| d2 _ ⟨rfl, rfl⟩, rfl, ?_⟩
          conv => whnf
          rw [show (i : Int) + 1 = ((i + 1 : Nat) : Int) by omega, i64n _ (by omega)]
          exact hih
  exact go l.length 0 (by omega) .nil _ trivial (Nat.zero_le _) rfl (.inl ⟨rfl, rfl⟩)
theorem made_good {l : List Act'} {n : Nat} (h : small l n) : (made l).good ∧ (made l).pairs.length ≤ n := by
  obtain ⟨h1, h2⟩ := fold_good l (t := .nil) trivial h.2
  have := h.1
  exact ⟨h1, by simp only [made]; simp only [T.pairs, List.length_nil] at h2; omega⟩
end Go.Proofs.YtmfilaagpobmbaaGreatDoor
