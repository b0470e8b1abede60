/- A part of the proof of a seat of parts: AbsOp10, AbsOp11, AbsOp12, AbsOp13. -/
import Derived.ArgAppend
import Derived.Laws.BytesString
import Derived.Laws.MakeOwn
import Derived.Laws.IdiomStrings
import Derived.Test.YtmfilaagpobmbaaGreatDoorA2
set_option linter.all false
namespace Go.Abs
open Go
set_option linter.unusedSimpArgs false

section
variable {P : Program} {E : Env}

theorem growBy_le (n : Nat) : ∀ (k c : Nat), c ≤ 2 * n + 192 → Builtin.growBy n k c ≤ 2 * n + 192
  | 0, c, h => h
  | k + 1, c, h => by
    unfold Builtin.growBy
    split
    · exact h
    · exact growBy_le n k _ (by omega)

theorem nextcap_le (n c : Nat) (h : c < n) : Builtin.nextslicecap n c ≤ 2 * n + 192 := by
  unfold Builtin.nextslicecap
  split
  · omega
  · split
    · omega
    · exact growBy_le n 4 c (by omega)

theorem zeroCells_size (z : Array Value) (n : Nat) : (Builtin.zeroCells z n).size = n * z.size := by simp [Builtin.zeroCells]

theorem not_zeros (hT : TyOk P E) {u : Nat} (hku : (match (E.td u).k with | .slice _ => true | .str => true | _ => false) = true) : ∃ d, P.underlying u = some d ∧ ∀ k, d ≠ .int k := by
  split at hku
  · rename_i e' hk'; exact ⟨_, td_slice hT hk', by simp⟩
  · rename_i hk'; exact ⟨_, td_str hT hk', by simp⟩
  · simp at hku

/-- what append does where there is room -/
theorem run_append_in (hT : TyOk P E) {w w' : World} {ts : Array Nat} {t u e ty : Nat} (ht : ts[0]? = some t) (hu : ts[1]? = some u) (hk : P.underlying t = some (.slice e)) (hku : ∃ d, P.underlying u = some d ∧ ∀ k, d ≠ .int k)
    (hz : 0 < (E.td e).size) {a : Addr} {sLen sCap m : Nat} {v : Value} {c : Array Value} (hl : (Builtin.lenOf v).run P w = .ok m w) (hc : (Builtin.firstCells (E.td e).size m v).run P w = .ok c w) (hroom : sLen + m ≤ sCap)
    (hst : (storeCells (a.add (sLen * (E.td e).size)) c.toList).run P w = .ok () w') :
    (Builtin.append_ ts ty #[.slice (some a) sLen sCap, v]).run P w = .ok (.slice (some a) (sLen + m) sCap) w' := by
  obtain ⟨d, hd, hd2⟩ := hku
  have h2 : (match d with | .int _ => true | _ => false) = false := by cases d <;> first | rfl | exact absurd rfl (hd2 _)
  simp [Builtin.append_, ht, hu, run_underlying hk, run_sizeOf_td hT hz w, run_underlying hd, h2, hl, hroom, hc, hst]

theorem run_append_nilnil (hT : TyOk P E) {w : World} {ts : Array Nat} {t u e ty : Nat} (ht : ts[0]? = some t) (hu : ts[1]? = some u) (hk : P.underlying t = some (.slice e)) (hku : ∃ d, P.underlying u = some d ∧ ∀ k, d ≠ .int k)
    (hz : 0 < (E.td e).size) {v : Value} {c : Array Value} (hl : (Builtin.lenOf v).run P w = .ok 0 w) (hc : (Builtin.firstCells (E.td e).size 0 v).run P w = .ok c w) :
    (Builtin.append_ ts ty #[.slice none 0 0, v]).run P w = .ok (.slice none 0 0) w := by
  obtain ⟨d, hd, hd2⟩ := hku
  have h2 : (match d with | .int _ => true | _ => false) = false := by cases d <;> first | rfl | exact absurd rfl (hd2 _)
  simp [Builtin.append_, ht, hu, run_underlying hk, run_sizeOf_td hT hz w, run_underlying hd, h2, hl, hc]

/-- what append does where there is none: a new row -/
theorem run_append_out (hT : TyOk P E) {w : World} {ts : Array Nat} {t u e ty : Nat} (ht : ts[0]? = some t) (hu : ts[1]? = some u) (hk : P.underlying t = some (.slice e)) (hku : ∃ d, P.underlying u = some d ∧ ∀ k, d ≠ .int k)
    (hz : 0 < (E.td e).size) (hzero : (E.td e).zero.length = (E.td e).size) (hb0 : 0 < (E.td e).bytes) (hb1 : (E.td e).bytes ≤ 1048576)
    {s v : Value} {base : Option Addr} {sLen sCap m : Nat} {old c : Array Value} (hs : s = .slice base sLen sCap) (hl : (Builtin.lenOf v).run P w = .ok m w)
    (ho : (Builtin.firstCells (E.td e).size sLen s).run P w.drew = .ok old w.drew) (hc : (Builtin.firstCells (E.td e).size m v).run P w.drew = .ok c w.drew) (hroom : sCap < sLen + m) (hby : (sLen + m) * (E.td e).bytes ≤ 17592186044416) :
    ∃ cap rest, sLen + m ≤ cap ∧ rest.size = (cap - (sLen + m)) * (E.td e).size ∧
      (Builtin.append_ ts ty #[s, v]).run P w = .ok (.slice (some ⟨w.heap.size, 0, none⟩) (sLen + m) cap) (w.drew.alloc (.cells (old ++ c ++ rest) e)) := by
  obtain ⟨d, hd, hd2⟩ := hku
  have h2 : (match d with | .int _ => true | _ => false) = false := by cases d <;> first | rfl | exact absurd rfl (hd2 _)
  obtain ⟨z, hzr, hz1, hz2⟩ := run_zero_td (P := P) hT (t := e) (by omega) w.drew
  have hzs : z.cells.size = (E.td e).size := by rw [← hzero, hz2]; simp
  obtain ⟨i, D, hi, hD, htd⟩ := td_inv hT (t := e) (.inl hz)
  have hib : i.bytes = (E.td e).bytes := by rw [htd, (tdIn_size i D).2]
  have hn : sLen + m ≤ 17592186044416 := by
    have : (sLen + m) * 1 ≤ (sLen + m) * (E.td e).bytes := Nat.mul_le_mul_left _ hb0
    omega
  have hcap := nextcap_le (sLen + m) sCap hroom
  have hfit : ¬ (Builtin.nextslicecap (sLen + m) sCap * i.bytes > 2 ^ 48) := by
    rw [hib]
    have h1 : Builtin.nextslicecap (sLen + m) sCap * (E.td e).bytes ≤ (2 * (sLen + m) + 192) * (E.td e).bytes := Nat.mul_le_mul_right _ hcap
    have h3 : (2 * (sLen + m) + 192) * (E.td e).bytes = 2 * ((sLen + m) * (E.td e).bytes) + 192 * (E.td e).bytes := by rw [Nat.add_mul, Nat.mul_assoc]
    omega
  have h63 : ¬ (((sLen + m : Nat) : Int) > IntKind.i64.max ∧ (False ∨ i.bytes = 0)) := by
    rintro ⟨h, _⟩
    have e1 : IntKind.i64.max = 9223372036854775807 := by decide
    rw [e1] at h; omega
  have hforced : (Question.appendCap (sLen + m) sCap e).forced = false := rfl
  refine ⟨(Question.appendCap (sLen + m) sCap e).cut (w.tape w.drawn (.appendCap (sLen + m) sCap e)), Builtin.zeroCells z.cells ((Question.appendCap (sLen + m) sCap e).cut (w.tape w.drawn (.appendCap (sLen + m) sCap e)) - (sLen + m)), by simp [Question.cut], by rw [zeroCells_size, hzs], ?_⟩
  subst hs
  have hnr : ¬ sLen + m ≤ sCap := by omega
  have hti : ∀ w, (typeInfo e).run P w = .ok i w := fun w => by simp [typeInfo, hi]
  simp only [Builtin.append_, ht, hu, List.getElem?_toArray, List.getElem?_cons_zero, List.getElem?_cons_succ, Sem.run_bind, run_underlying hk, Result.andThen_ok, run_sizeOf_td hT hz w, run_underlying hd, h2, Sem.run_pure, Bool.false_eq_true, if_false, Sem.run_ite, hl, hnr, hti, h63, hfit, run_choose_drew, hforced, run_askRoom, ho, Bool.not_false, if_true, hc, hzr]
  first | rfl | (rw [if_neg h63]; rfl)

theorem flat_at {sz : Nat} : ∀ {l : List (List IV)} (_ : ∀ e ∈ l, e.length = sz) {i j : Nat} {e : List IV} {x : IV}, l[i]? = some e → e[j]? = some x → l.flatten[i * sz + j]? = some x
  | [], _, i, j, e, x, h, _ => by simp at h
  | a :: l, hl, 0, j, e, x, h, hx => by
    simp at h; subst h
    have := (List.getElem?_eq_some_iff.1 hx).1
    rw [List.flatten_cons, Nat.zero_mul, Nat.zero_add, List.getElem?_append, if_pos this]; exact hx
  | a :: l, hl, i + 1, j, e, x, h, hx => by
    have ha := hl a (by simp)
    rw [List.flatten_cons, List.getElem?_append, if_neg (by rw [ha, Nat.add_mul]; omega), ha]
    rw [show (i + 1) * sz + j - sz = i * sz + j by rw [Nat.add_mul]; omega]
    exact flat_at (l := l) (fun e he => hl e (by simp [he])) (by simpa using h) hx

theorem keepTy_eq {ty : Option Nat} {e t : Nat} (h : keepTy ty e = some t) : ty = some t ∧ e = t := by
  unfold keepTy at h
  split at h
  · split at h
    · rename_i hb
      cases h
      exact ⟨rfl, (Nat.eq_of_beq_eq_true hb).symm⟩
    · cases h
  · cases h

/-- an append is sound -/
theorem aAppend_sound (hT : TyOk P E) {w : World} {g : Gh} {H : List Blk} (hs : Sim E w g H) {ts : Array Nat} {ty t u : Nat} (ht : ts[0]? = some t) (hu : ts[1]? = some u) {x y : AV} {v q : Value} {K : AV → List Blk → Prop}
    (hx : AVR w g x v) (hy : AVR w g y q) (h : aAppend E t u x y H K) : GivesW E w g H (Builtin.append_ ts ty #[v, q]) P K := by
  unfold aAppend at h
  split at h
  · rename_i e hk hku
    have hks := td_slice hT hk
    have hku := not_zeros hT hku
    split at h
    · rename_i hb
      simp only [Bool.and_eq_true] at hb
      obtain ⟨⟨⟨hb1, hb2⟩, hb3⟩, hb4⟩ := hb
      have hz : 0 < (E.td e).size := by simpa using hb1
      have hzero : (E.td e).zero.length = (E.td e).size := Nat.eq_of_beq_eq_true hb2
      have hby0 : 0 < (E.td e).bytes := by simpa using hb3
      have hby1 : (E.td e).bytes ≤ 1048576 := Nat.le_of_ble_eq_true hb4
      obtain ⟨xs, h, hxs, hlen, hcells⟩ := elemsOf_sound (P := P) hs hy h
      obtain ⟨c, hc, hcL⟩ := hcells xs.length (Nat.le_refl _)
      rw [List.take_length] at hcL
      have hcsz : c.size = xs.length * (E.td e).size := by have := hcL.1; rw [flat_len hxs] at this; simpa using this.symm
      have hcl : c.toList.length = xs.length * (E.td e).size := by rw [← hcsz]; simp
      have hvals : L2 (A1R w g) (xs.flatten.map A1.imm) c.toList := L2.map.2 hcL
      unfold appTo at h
      split at h
      · -- an empty slice without room
        obtain ⟨ad, rfl⟩ := hx
        split at h
        · have hc0 : c.toList = [] := by apply List.eq_nil_of_length_eq_zero; rw [hcl]; simp
          cases ad with
          | none => exact ⟨_, _, w, g, H, h, run_append_nilnil hT ht hu hks hku hz hlen (hc w rfl), .refl _ _ _, .refl _, hs, ⟨none, rfl⟩⟩
          | some ad => exact ⟨_, _, w, g, H, h, run_append_in (w' := w) hT ht hu hks hku hz hlen (hc w rfl) (Nat.le_refl 0) (by rw [hc0]; rfl), .refl _ _ _, .refl _, hs, ⟨some ad, rfl⟩⟩
        · rename_i a r
          obtain ⟨hby, hK⟩ := h
          obtain ⟨cap, rest, k1, k2, k3⟩ := run_append_out (P := P) hT (w := w) (ts := ts) (ty := ty) ht hu hks hku hz hzero hby0 hby1 (s := .slice ad 0 0) (v := q) (sLen := 0) (sCap := 0) (m := (a :: r).length) (old := #[]) (c := c) rfl hlen
            (by cases ad <;> simp [Builtin.firstCells, loadCells, loadCellsFrom]) (hc w.drew rfl) (by simp) (by simpa using hby)
          simp only [Nat.zero_add, List.length_cons] at k1 k2 k3
          have hsize : ((#[] : Array Value) ++ c ++ rest).size = cap * (E.td e).size := by
            rw [Array.size_append, Array.size_append, hcsz, k2]; simp
            rw [← Nat.add_mul]; congr 1; omega
          have hB : BlkR (w.drew.alloc (.cells (#[] ++ c ++ rest) e)) (g.push H.length ⟨w.heap.size, 0, r.length + 1, (E.td e).size, cap⟩) H.length (.vec (E.td e).size (a :: r) true (tyOf E e)) := by
            refine ⟨hxs, ⟨w.heap.size, 0, r.length + 1, (E.td e).size, cap⟩, [], by simp [Gh.push], by simp, by simp, by simp, fun vv hvv => ?_⟩
            simp at hvv; subst hvv
            refine ⟨rfl, by simp, by simp, by simpa using k1, _, e, (0, 0), heap_alloc_new w.drew _, fun i _ => by simp, hsize, (fun t ht => by unfold tyOf at ht; split at ht <;> simp_all), fun i x _ hi hx' j z hz' => ?_⟩
            simp only [Nat.sub_zero]
            have hfl : (a :: r).flatten[i * (E.td e).size + j]? = some z := by
              have := flat_at hxs hx' hz'
              exact this
            obtain ⟨b, hb, hr⟩ := hcL.2 _ _ hfl
            refine ⟨b, ?_, Rd.push hs (w' := w.drew.alloc (.cells (#[] ++ c ++ rest) e)) (o := .cells (#[] ++ c ++ rest) e) rfl hr⟩
            have hbl := (List.getElem?_eq_some_iff.1 hb).1
            simp only [Array.length_toList] at hbl
            rw [Array.getElem?_append, if_pos (by simpa using hbl)]
            simpa using hb
          obtain ⟨s1, s2, s3⟩ := sim_push (w' := w.drew.alloc (.cells (#[] ++ c ++ rest) e)) hs rfl rfl rfl rfl rfl hB
          refine ⟨_, _, _, _, _, hK, k3, s2, s3, s1, ⟨⟨w.heap.size, 0, r.length + 1, (E.td e).size, cap⟩, by simp [Gh.push], ⟨w.heap.size, 0, none⟩, cap, by simp, by simp, by simp, by simp, by simpa using k1, .inr (by simp)⟩⟩
      · -- nothing was there
        have e1 : v = .slice none 0 0 := hx
        subst e1
        split at h
        · refine ⟨_, _, w, g, H, h, run_append_nilnil hT ht hu hks hku hz hlen (hc w rfl), .refl _ _ _, .refl _, hs, rfl⟩
        · rename_i a r
          obtain ⟨hby, hK⟩ := h
          obtain ⟨cap, rest, k1, k2, k3⟩ := run_append_out (P := P) hT (w := w) (ts := ts) (ty := ty) ht hu hks hku hz hzero hby0 hby1 (s := .slice none 0 0) (v := q) (sLen := 0) (sCap := 0) (m := (a :: r).length) (old := #[]) (c := c) rfl hlen
            (by simp [Builtin.firstCells]) (hc w.drew rfl) (by simp) (by simpa using hby)
          simp only [Nat.zero_add, List.length_cons] at k1 k2 k3
          have hsize : ((#[] : Array Value) ++ c ++ rest).size = cap * (E.td e).size := by
            rw [Array.size_append, Array.size_append, hcsz, k2]; simp
            rw [← Nat.add_mul]; congr 1; omega
          have hB : BlkR (w.drew.alloc (.cells (#[] ++ c ++ rest) e)) (g.push H.length ⟨w.heap.size, 0, r.length + 1, (E.td e).size, cap⟩) H.length (.vec (E.td e).size (a :: r) true (tyOf E e)) := by
            refine ⟨hxs, ⟨w.heap.size, 0, r.length + 1, (E.td e).size, cap⟩, [], by simp [Gh.push], by simp, by simp, by simp, fun vv hvv => ?_⟩
            simp at hvv; subst hvv
            refine ⟨rfl, by simp, by simp, by simpa using k1, _, e, (0, 0), heap_alloc_new w.drew _, fun i _ => by simp, hsize, (fun t ht => by unfold tyOf at ht; split at ht <;> simp_all), fun i x _ hi hx' j z hz' => ?_⟩
            simp only [Nat.sub_zero]
            have hfl : (a :: r).flatten[i * (E.td e).size + j]? = some z := by
              have := flat_at hxs hx' hz'
              exact this
            obtain ⟨b, hb, hr⟩ := hcL.2 _ _ hfl
            refine ⟨b, ?_, Rd.push hs (w' := w.drew.alloc (.cells (#[] ++ c ++ rest) e)) (o := .cells (#[] ++ c ++ rest) e) rfl hr⟩
            have hbl := (List.getElem?_eq_some_iff.1 hb).1
            simp only [Array.length_toList] at hbl
            rw [Array.getElem?_append, if_pos (by simpa using hbl)]
            simpa using hb
          obtain ⟨s1, s2, s3⟩ := sim_push (w' := w.drew.alloc (.cells (#[] ++ c ++ rest) e)) hs rfl rfl rfl rfl rfl hB
          refine ⟨_, _, _, _, _, hK, k3, s2, s3, s1, ⟨⟨w.heap.size, 0, r.length + 1, (E.td e).size, cap⟩, by simp [Gh.push], ⟨w.heap.size, 0, none⟩, cap, by simp, by simp, by simp, by simp, by simpa using k1, .inr (by simp)⟩⟩
      · rename_i id off len _
        split at h
        · rename_i sz elems gr oty hl
          split at h
          · rename_i hsz
            have hsz : sz = (E.td e).size := Nat.eq_of_beq_eq_true hsz
            subst hsz
            obtain ⟨hfull, hby, hK⟩ := h
            have hid := getD_get hl (by simp)
            obtain ⟨r, hr, a, cap, rfl, q1, q2, q3, q4, q5⟩ := hx
            obtain ⟨hes, r0, rs, ho, hn0, hg, hlt, hv⟩ := hs.blk id _ hid
            have hver := hv r (by rw [← ho]; exact hr)
            have hrn : r.n = elems.length := by have := hver.le; omega
            have hr0 : r = r0 := by
              rw [ho] at hr
              rcases List.mem_cons.1 hr with h | h
              · exact h
              · have := hlt r h; omega
            subst hr0
            obtain ⟨cc, tty, fz, hb, huf, hcs, hoty, hm⟩ := hver.mem
            have hbl : r.blk < w.heap.size := blk_lt (hs.blk id _ hid) rfl (r := r) (by rw [ho]; simp)
            have hro : r ∈ g.own id := by rw [ho]; simp
            have hdisV : ∀ v1 ∈ g.own id, ∀ v2 ∈ g.own id, v1.blk = v2.blk → v1 = v2 := fun v1 h1 v2 h2 he => (hs.dis id _ id _ v1 v2 hid rfl hid rfl h1 h2 he).2
            by_cases hroom : len + xs.length ≤ cap
            · -- there is room: the cells behind are written
              have hstore : ∃ w', (storeCells (a.add (len * (E.td e).size)) c.toList).run P w = .ok () w' ∧ w'.heap = w.heap.setIfInBounds r.blk (.cells (putAt cc ((elems.length - r.start) * (E.td e).size) c.toList) tty fz) ∧ w'.os = w.os ∧ w'.tape = w.tape ∧ w'.output = w.output := by
                rcases q5 with q5 | rfl
                · have hx0 : xs.length = 0 := by omega
                  have hc0 : c.toList = [] := List.eq_nil_of_length_eq_zero (by simp [hcsz, hx0])
                  rw [hc0]
                  refine ⟨w, by simp [storeCells], ?_, rfl, rfl, rfl⟩
                  apply Array.ext_getElem?
                  intro j
                  rw [Array.getElem?_setIfInBounds]
                  by_cases ej : r.blk = j
                  · rw [if_pos ej, if_pos hbl, ← ej, hb]; rfl
                  · rw [if_neg ej]
                · have hin : (elems.length - r.start) * (E.td e).size + 0 + c.toList.length ≤ cc.size := by
                    rw [hcl, hcs, Nat.add_zero, ← Nat.add_mul]
                    exact Nat.mul_le_mul_right _ (by omega)
                  obtain ⟨w', k1, k2, k3, k4, k5⟩ := run_storeCells_put (P := P) c.toList 0 ((elems.length - r.start) * (E.td e).size) cc w hb huf hin (a1R_one hvals)
                  refine ⟨w', ?_, by rw [Nat.add_zero] at k2; exact k2, k3, k4, k5⟩
                  rw [add_zero', hver.hz, ← Nat.add_mul, show off - r.start + len = elems.length - r.start by omega]
                  exact k1
              obtain ⟨w', k1, k2, k3, k4, k5⟩ := hstore
              have hrun := run_append_in hT (ts := ts) (ty := ty) ht hu hks hku hz (v := q) hlen (hc w rfl) hroom k1
              let r' : Ver := { r with n := elems.length + xs.length }
              let g' : Gh := ⟨g.imm, fun j => if j = id then r' :: rs else g.own j⟩
              have hg'id : g'.own id = r' :: rs := by simp [g']
              have hole : OwnLe g g' := by
                intro j v1 h1
                by_cases hj : j = id
                · subst hj
                  rw [ho] at h1
                  rcases List.mem_cons.1 h1 with h | h
                  · subst h; exact ⟨r', by rw [hg'id]; simp, rfl, rfl, rfl, rfl, by simp [r', hrn]⟩
                  · exact ⟨v1, by rw [hg'id]; simp [h], rfl, rfl, rfl, rfl, Nat.le_refl _⟩
                · exact ⟨v1, by simp [g', hj, h1], rfl, rfl, rfl, rfl, Nat.le_refl _⟩
              have hmemr : ∀ v1 ∈ g'.own id, ∃ v0 ∈ g.own id, v0.blk = v1.blk := by
                intro v1 h1
                rw [hg'id] at h1
                rcases List.mem_cons.1 h1 with h | h
                · subst h; exact ⟨r, hro, rfl⟩
                · exact ⟨v1, by rw [ho]; simp [h], rfl⟩
              have hw : ∀ k, k < w.heap.size → (¬ ∃ v0 ∈ g.own id, v0.blk = k) → w'.heap[k]? = w.heap[k]? := by
                intro k _ hk
                rw [k2, Array.getElem?_setIfInBounds, if_neg (fun e => hk ⟨r, hro, e⟩)]
              have hrd : ∀ iv v, Rd w g.imm iv v → Rd w' g.imm iv v := fun iv v h => h.keep (fun _ h => h) (fun k hk => hw k (hs.lt k hk) (fun ⟨v0, m1, m2⟩ => hs.imm k ⟨id, _, hid, rfl, v0, m1, m2⟩ hk))
              have hin2 : (elems.length - r.start) * (E.td e).size + c.toList.length ≤ cc.size ∨ xs.length = 0 := by
                rcases q5 with q5 | _
                · right; omega
                · left
                  rw [hcl, hcs, ← Nat.add_mul]
                  exact Nat.mul_le_mul_right _ (by omega)
              have hB : BlkR w' g' id (.vec (E.td e).size (elems ++ xs) true (keepTy oty e)) := by
                refine ⟨fun x hx => ?_, r', rs, hg'id, by simp [r'], by simp, fun v1 h1 => by have := hlt v1 h1; simp; omega, fun v1 h1 => ?_⟩
                · rcases List.mem_append.1 hx with h | h
                  · exact hes x h
                  · exact hxs x h
                · rcases List.mem_cons.1 h1 with h | h
                  · subst h
                    refine ⟨hver.hz, by simp [r'], by have := hver.st; simp [r']; omega, by simp [r']; omega, putAt cc ((elems.length - r.start) * (E.td e).size) c.toList, tty, fz, ?_, by rw [putAt_size]; exact huf, by rw [putAt_size]; exact hcs, (fun t ht => hoty t (keepTy_eq ht).1), fun i x hi1 hi2 hix j z hjz => ?_⟩
                    · show w'.heap[r.blk]? = _
                      rw [k2, Array.getElem?_setIfInBounds, if_pos rfl, if_pos hbl]
                    · simp only [r'] at hi1 hi2 ⊢
                      have hzlt : j < (E.td e).size := by
                        have : x.length = (E.td e).size := by
                          rcases List.mem_append.1 (List.mem_of_getElem? hix) with h | h
                          · exact hes x h
                          · exact hxs x h
                        rw [← this]; exact (List.getElem?_eq_some_iff.1 hjz).1
                      rcases hin2 with hin2 | hx0
                      · rw [putAt_get hin2]
                        rw [List.getElem?_append] at hix
                        by_cases hie : i < elems.length
                        · rw [if_pos hie] at hix
                          obtain ⟨b, b1, b2⟩ := hm i x hi1 (by omega) hix j z hjz
                          have : (i - r.start + 1) * (E.td e).size ≤ (elems.length - r.start) * (E.td e).size := Nat.mul_le_mul_right _ (by omega)
                          rw [Nat.add_mul] at this
                          rw [if_pos (by omega)]
                          exact ⟨b, b1, hrd _ _ b2⟩
                        · rw [if_neg hie] at hix
                          obtain ⟨b, b1, b2⟩ := hcL.2 _ _ (flat_at hxs hix hjz)
                          have hle : (elems.length - r.start) * (E.td e).size ≤ (i - r.start) * (E.td e).size := Nat.mul_le_mul_right _ (by omega)
                          have hidx : (i - r.start) * (E.td e).size + j - (elems.length - r.start) * (E.td e).size = (i - elems.length) * (E.td e).size + j := by
                            have : (i - r.start) = (elems.length - r.start) + (i - elems.length) := by have := hver.st; omega
                            rw [this, Nat.add_mul]; omega
                          have hbl2 := (List.getElem?_eq_some_iff.1 b1).1
                          rw [if_neg (by omega), if_pos (by omega), hidx]
                          exact ⟨b, b1, hrd _ _ b2⟩
                      · have hx0' : xs = [] := List.eq_nil_of_length_eq_zero hx0
                        have hc0 : c.toList = [] := List.eq_nil_of_length_eq_zero (by simp [hcsz, hx0])
                        rw [hc0]
                        subst hx0'
                        simp only [List.append_nil] at hix
                        obtain ⟨b, b1, b2⟩ := hm i x hi1 (by simp at hi2; omega) hix j z hjz
                        exact ⟨b, b1, hrd _ _ b2⟩
                  · obtain ⟨p1, p2, p3, p4, c1, ty1, fz1, p5, p6, p7, p9, p8⟩ := hv v1 (by simp [h])
                    refine ⟨p1, by simp; omega, p3, p4, c1, ty1, fz1, ?_, p6, p7, (fun t ht => p9 t (keepTy_eq ht).1), fun i x hi1 hi2 hix j z hjz => ?_⟩
                    · have hne : r.blk ≠ v1.blk := fun e => by
                        have := hdisV r hro v1 (by rw [ho]; simp [h]) e
                        subst this; have := hlt r h; omega
                      rw [k2, Array.getElem?_setIfInBounds, if_neg hne]; exact p5
                    · have : i < elems.length := by have := hlt v1 h; omega
                      rw [List.getElem?_append, if_pos this] at hix
                      obtain ⟨b, b1, b2⟩ := p8 i x hi1 hi2 hix j z hjz
                      exact ⟨b, b1, hrd _ _ b2⟩
              obtain ⟨s1, s2⟩ := sim_upd (w' := w') (g' := g') hs hid rfl (B' := .vec (E.td e).size (elems ++ xs) true (keepTy oty e)) rfl rfl (fun j hj => by simp [g', hj]) hole (fun v1 h1 => .inl (hmemr v1 h1)) (fun v1 h1 v2 h2 he => by
                rw [hg'id] at h1 h2
                rcases List.mem_cons.1 h1 with h | h <;> rcases List.mem_cons.1 h2 with h' | h'
                · rw [h, h']
                · exfalso; rw [h] at he; have := hdisV r hro v2 (by rw [ho]; simp [h']) he; subst this; have := hlt r h'; omega
                · exfalso; rw [h'] at he; have := hdisV v1 (by rw [ho]; simp [h]) r hro he; subst this; have := hlt v1 h; omega
                · exact hdisV v1 (by rw [ho]; simp [h]) v2 (by rw [ho]; simp [h']) he) hw (by rw [k2]; simp) k3 k4 k5 hB
              exact ⟨_, _, w', g', _, hK, hrun, s2, hole, s1, r', by rw [hg'id]; simp, a, cap, rfl, q1, by simp [r']; omega, q3, hroom, q5⟩
            · -- a new row
              have hxpos : 0 < xs.length := by omega
              have hel : elemsOf (E.td e).size H (.one (.sl id off len)) (fun l => l = (elems.drop off).take len) := by
                simp only [elemsOf, hl, Nat.beq_refl]
              have hxr : AVR w g (.one (.sl id off len)) (.slice (some a) len cap) := ⟨r, hro, a, cap, rfl, q1, q2, q3, q4, q5⟩
              obtain ⟨ys, rfl, hys, hylen, hycells⟩ := elemsOf_sound (P := P) hs hxr hel
              have hyl : ((elems.drop off).take len).length = len := by simp; omega
              obtain ⟨old, hold, holdL⟩ := hycells len (by omega)
              have htk : ((elems.drop off).take len).take len = (elems.drop off).take len := by rw [List.take_take, Nat.min_self]
              rw [htk] at holdL
              have holdsz : old.size = len * (E.td e).size := by have := holdL.1; rw [flat_len hys, hyl] at this; simpa using this.symm
              obtain ⟨cap', rest, k1, k2, k3⟩ := run_append_out (P := P) hT (w := w) (ts := ts) (ty := ty) ht hu hks hku hz hzero hby0 hby1 (s := .slice (some a) len cap) (v := q) (m := xs.length) (old := old) (c := c) rfl hlen (hold w.drew rfl) (hc w.drew rfl) (by omega)
                (Nat.le_trans (Nat.mul_le_mul_right _ (by omega)) hby)
              let w' : World := w.drew.alloc (.cells (old ++ c ++ rest) e)
              have hw'h : w'.heap = w.heap.push (.cells (old ++ c ++ rest) e) := rfl
              let r' : Ver := ⟨w.heap.size, off, elems.length + xs.length, (E.td e).size, cap'⟩
              let g' : Gh := ⟨g.imm, fun j => if j = id then r' :: r :: rs else g.own j⟩
              have hg'id : g'.own id = r' :: r :: rs := by simp [g']
              have hole : OwnLe g g' := by
                intro j v1 h1
                by_cases hj : j = id
                · subst hj; rw [ho] at h1; exact ⟨v1, by rw [hg'id]; exact List.mem_cons_of_mem _ h1, rfl, rfl, rfl, rfl, Nat.le_refl _⟩
                · exact ⟨v1, by simp [g', hj, h1], rfl, rfl, rfl, rfl, Nat.le_refl _⟩
              have hw : ∀ k, k < w.heap.size → (¬ ∃ v0 ∈ g.own id, v0.blk = k) → w'.heap[k]? = w.heap[k]? := fun k hk _ => heap_push hw'h k hk
              have hrd : ∀ iv v, Rd w g.imm iv v → Rd w' g.imm iv v := fun iv v h => Rd.push hs hw'h h
              have hltv : ∀ v1 ∈ g.own id, v1.blk < w.heap.size := fun v1 h1 => blk_lt (hs.blk id _ hid) rfl h1
              have hB : BlkR w' g' id (.vec (E.td e).size (elems ++ xs) true (keepTy oty e)) := by
                refine ⟨fun x hx => ?_, r', r :: rs, hg'id, by simp [r'], by simp, fun v1 h1 => ?_, fun v1 h1 => ?_⟩
                · rcases List.mem_append.1 hx with h | h
                  · exact hes x h
                  · exact hxs x h
                · rcases List.mem_cons.1 h1 with h | h
                  · subst h; simp; omega
                  · have := hlt v1 h; simp; omega
                · rcases List.mem_cons.1 h1 with h | h
                  · subst h
                    refine ⟨rfl, by simp [r'], by simp [r']; omega, by simp [r']; omega, old ++ c ++ rest, e, (0, 0), heap_alloc_new w.drew _, fun i _ => by simp, ?_, (fun t ht => (keepTy_eq ht).2), fun i x hi1 hi2 hix j z hjz => ?_⟩
                    · simp only [r', Array.size_append, holdsz, hcsz, k2]
                      rw [← Nat.add_mul, ← Nat.add_mul]; congr 1; omega
                    · simp only [r'] at hi1 hi2 ⊢
                      have hzlt : j < (E.td e).size := by
                        have : x.length = (E.td e).size := by
                          rcases List.mem_append.1 (List.mem_of_getElem? hix) with h | h
                          · exact hes x h
                          · exact hxs x h
                        rw [← this]; exact (List.getElem?_eq_some_iff.1 hjz).1
                      rw [List.getElem?_append] at hix
                      by_cases hie : i < elems.length
                      · rw [if_pos hie] at hix
                        have hyi : ((elems.drop off).take len)[i - off]? = some x := by
                          rw [List.getElem?_take, if_pos (by omega), List.getElem?_drop, show off + (i - off) = i by omega]; exact hix
                        obtain ⟨b, b1, b2⟩ := holdL.2 _ _ (flat_at hys hyi hjz)
                        have hbl2 := (List.getElem?_eq_some_iff.1 b1).1
                        simp only [Array.length_toList] at hbl2
                        refine ⟨b, ?_, hrd _ _ b2⟩
                        rw [Array.getElem?_append, if_pos (by rw [Array.size_append]; omega), Array.getElem?_append, if_pos hbl2]
                        simpa using b1
                      · rw [if_neg hie] at hix
                        obtain ⟨b, b1, b2⟩ := hcL.2 _ _ (flat_at hxs hix hjz)
                        have hbl2 := (List.getElem?_eq_some_iff.1 b1).1
                        simp only [Array.length_toList] at hbl2
                        have hidx : (i - off) * (E.td e).size + j = len * (E.td e).size + ((i - elems.length) * (E.td e).size + j) := by
                          rw [show i - off = len + (i - elems.length) by omega, Nat.add_mul]; omega
                        refine ⟨b, ?_, hrd _ _ b2⟩
                        rw [hidx, Array.getElem?_append, if_pos (by rw [Array.size_append, holdsz]; omega), Array.getElem?_append, if_neg (by rw [holdsz]; omega), holdsz, Nat.add_sub_cancel_left]
                        simpa using b1
                  · obtain ⟨p1, p2, p3, p4, c1, ty1, fz1, p5, p6, p7, p9, p8⟩ := hv v1 h
                    have hvn : v1.n ≤ elems.length := p2
                    refine ⟨p1, by simp; omega, p3, p4, c1, ty1, fz1, (heap_push hw'h _ (hltv v1 (by rw [ho]; exact h))).trans p5, p6, p7, (fun t ht => p9 t (keepTy_eq ht).1), fun i x hi1 hi2 hix j z hjz => ?_⟩
                    rw [List.getElem?_append, if_pos (show i < elems.length by omega)] at hix
                    obtain ⟨b, b1, b2⟩ := p8 i x hi1 hi2 hix j z hjz
                    exact ⟨b, b1, hrd _ _ b2⟩
              have hnew : ∀ v1 ∈ g'.own id, v1 = r' ∨ v1 ∈ g.own id := fun v1 h1 => by rw [hg'id] at h1; rw [ho]; exact List.mem_cons.1 h1
              obtain ⟨s1, s2⟩ := sim_upd (w' := w') (g' := g') hs hid rfl (B' := .vec (E.td e).size (elems ++ xs) true (keepTy oty e)) rfl rfl (fun j hj => by simp [g', hj]) hole (fun v1 h1 => by
                  rcases hnew v1 h1 with rfl | h
                  · right; simp [r']
                  · left; exact ⟨v1, h, rfl⟩) (fun v1 h1 v2 h2 he => by
                  rcases hnew v1 h1 with h | h <;> rcases hnew v2 h2 with h' | h'
                  · rw [h, h']
                  · exfalso; have := hltv v2 h'; rw [h] at he; simp only [r'] at he; omega
                  · exfalso; have := hltv v1 h; rw [h'] at he; simp only [r'] at he; omega
                  · exact hdisV v1 h v2 h' he) hw (by rw [hw'h]; simp) rfl rfl rfl hB
              exact ⟨_, _, w', g', _, hK, k3, s2, hole, s1, r', by rw [hg'id]; simp, ⟨w.heap.size, 0, none⟩, cap', rfl, by simp [r'], by simp [r']; omega, by simp [r'], k1, .inr (by simp [r'])⟩
          · exact h.elim
        · exact h.elim
      · exact h.elim
    · exact h.elim
  · exact h.elim

end
end Go.Abs

namespace Go.Abs
open Go
set_option linter.unusedSimpArgs false

section
variable {P : Program} {E : Env}

/-- a new row whose cells are known element by element -/
theorem sim_row {w w' : World} {g : Gh} {H : List Blk} {sz cap : Nat} {elems : List (List IV)} {gr : Bool} {c : Array Value} {ty : TypeId} {fz : Nat × Nat} (hs : Sim E w g H)
    (hh : ∃ o, w'.heap = w.heap.push o) (hget : w'.heap[w.heap.size]? = some (.cells c ty fz)) (h1 : w'.os = w.os) (h2 : w'.tape = w.tape) (h3 : w'.output = w.output)
    (hu : unfrozen fz c.size) (hcs : c.size = cap * sz) (hle : elems.length ≤ cap) (hes : ∀ e ∈ elems, e.length = sz)
    (hm : ∀ (i : Nat) e, elems[i]? = some e → ∀ (j : Nat) x, e[j]? = some x → ∃ u, c[i * sz + j]? = some u ∧ Rd w g.imm x u) :
    Sim E w' (g.push H.length ⟨w.heap.size, 0, elems.length, sz, cap⟩) (H ++ [.vec sz elems gr]) ∧ Step w g H w' (g.push H.length ⟨w.heap.size, 0, elems.length, sz, cap⟩) (H ++ [.vec sz elems gr]) ∧ OwnLe g (g.push H.length ⟨w.heap.size, 0, elems.length, sz, cap⟩) ∧
      ∀ len, len ≤ elems.length → A1R w' (g.push H.length ⟨w.heap.size, 0, elems.length, sz, cap⟩) (.sl H.length 0 len) (.slice (some ⟨w.heap.size, 0, none⟩) len cap) := by
  obtain ⟨o, hh⟩ := hh
  have hB : BlkR w' (g.push H.length ⟨w.heap.size, 0, elems.length, sz, cap⟩) H.length (.vec sz elems gr) := by
    refine ⟨hes, ⟨w.heap.size, 0, elems.length, sz, cap⟩, [], by simp [Gh.push], rfl, fun _ => ⟨rfl, rfl⟩, by simp, fun v hv => ?_⟩
    simp at hv; subst hv
    refine ⟨rfl, Nat.le_refl _, Nat.zero_le _, by simpa using hle, c, ty, fz, hget, hu, hcs, (fun _ h => by cases h), fun i e _ _ he j x hx => ?_⟩
    obtain ⟨u, q1, q2⟩ := hm i e he j x hx
    exact ⟨u, by simpa using q1, Rd.push hs hh q2⟩
  obtain ⟨a, b, d⟩ := sim_push hs hh h1 h2 h3 (r := ⟨w.heap.size, 0, elems.length, sz, cap⟩) rfl hB
  exact ⟨a, b, d, fun len hl => ⟨⟨w.heap.size, 0, elems.length, sz, cap⟩, by simp [Gh.push], ⟨w.heap.size, 0, none⟩, cap, rfl, by simp, by simpa using hl, by simp, by omega, .inr (by simp)⟩⟩

theorem loadCells_bytes {w : World} {v : Value} {s : ByteArray} {a : Addr} {len cap : Nat} (hv : v = .slice (some a) len cap) (hl : len = s.size) {c : Array Value} {I : Nat → Prop}
    (hc : (Builtin.firstCells 1 len v).run P w = .ok c w) (hL : L2 (Rd w I) (bytesIV s).flatten c.toList) : (loadCells a len).run P w = .ok ((s.data.toList.map fun b => (b.toNat : Int)).map (Value.int .u8)).toArray w := by
  subst hv
  simp only [Builtin.firstCells, Nat.mul_one] at hc
  rw [hc]
  congr 1
  have hfl : (bytesIV s).flatten = s.data.toList.map fun b => IV.int .u8 (b.toNat : Int) := by
    simp only [bytesIV]
    generalize s.data.toList = l
    induction l with
    | nil => rfl
    | cons a l ih => simp [ih]
  rw [hfl] at hL
  apply Array.ext'
  apply List.ext_getElem?
  intro i
  simp only [List.map_map]
  have hlen : c.toList.length = s.data.toList.length := by rw [← hL.1]; simp
  by_cases hi : i < s.data.toList.length
  · obtain ⟨u, h1, h2⟩ := hL.2 i (.int .u8 ((s.data.toList[i]).toNat : Int)) (by simp [List.getElem?_eq_getElem hi])
    rw [h1, rd_int h2]
    simp [List.getElem?_eq_getElem hi]
  · rw [List.getElem?_eq_none (by omega), List.getElem?_eq_none (by simpa using hi)]

theorem fold_push (l : List UInt8) : ∀ (acc : ByteArray), (l.map fun b => (b.toNat : Int)).foldl (fun (r : ByteArray) (n : Int) => r.push (UInt8.ofNat n.toNat)) acc = ⟨acc.data ++ l.toArray⟩ := by
  induction l with
  | nil => intro acc; simp
  | cons b l ih =>
    intro acc
    simp only [List.map_cons, List.foldl_cons]
    rw [ih]
    congr 1
    apply Array.ext'
    simp [ByteArray.push]

theorem aConvert_sound (hT : TyOk P E) {w : World} {g : Gh} {H : List Blk} (hs : Sim E w g H) {src dst : Nat} {x : AV} {v : Value} {K : AV → List Blk → Prop} (hx : AVR w g x v) (h : aConvert E src dst x H K) :
    GivesW E w g H (convert src dst v) P K := by
  unfold aConvert at h
  split at h
  · rename_i k0 k k1 n hk hk'
    have e := rd_int hx; subst e
    have hu := td_int hT hk'
    refine Gives.w hs (gives _ _ h ?_ (.int k (k.wrap n)))
    have hki : P.intKind dst = k := by simp [Program.intKind, hu]
    rw [run_convert_int w src dst _ n (by rw [td_int hT hk]; rfl) (by rw [hki]; exact hu), hki]
  · rename_i s hk hk'
    have e := rd_str hx; subst e
    exact Gives.w hs (gives _ _ h (by simp [convert, run_underlying (td_str hT hk), run_underlying (td_str hT hk')]) hx)
  · rename_i e s hk hk'
    split at h
    · rename_i hu8
      have es := rd_str hx; subst es
      have hue : P.underlying e = some (.int .u8) := by
        unfold isU8 at hu8
        split at hu8
        · rename_i hk8; exact td_int hT hk8
        · simp at hu8
      have hrun := run_bytes_of_string (P := P) w src dst e s (td_str hT hk) (td_slice hT hk') hue
      have hcapge : s.size ≤ grownCap w s.size 0 e := grownCap_ge w s.size 0 e
      have hbs : (bytesRow s (grownCap w s.size 0 e)).size = grownCap w s.size 0 e := by
        simp [bytesRow]
        have : s.data.size = s.size := rfl
        omega
      obtain ⟨k1, k2, k3, k4⟩ := sim_row (gr := false) (sz := 1) (elems := bytesIV s) (cap := grownCap w s.size 0 e) (w' := w.drew.alloc (.cells (bytesRow s (grownCap w s.size 0 e)) e ((bytesRow s (grownCap w s.size 0 e)).size, (bytesRow s (grownCap w s.size 0 e)).size + 1))) hs ⟨_, rfl⟩ (heap_alloc_new w.drew _) rfl rfl rfl
        (fun i hi => by simp; omega) (by rw [hbs]; omega) (by rw [bytesIV_len]; exact hcapge) (bytesIV_each s) (fun i x hi j y hj => by
          simp only [bytesIV, List.getElem?_map, Option.map_eq_some_iff] at hi
          obtain ⟨b, hb, rfl⟩ := hi
          have hj0 : j = 0 := by
            have := (List.getElem?_eq_some_iff.1 hj).1; simpa using this
          subst hj0
          simp at hj; subst hj
          refine ⟨.int .u8 (b.toNat : Int), ?_, .int _ _⟩
          have hil := (List.getElem?_eq_some_iff.1 hb).1
          simp only [Array.length_toList] at hil
          simp only [bytesRow, Nat.mul_one, Nat.add_zero]
          rw [Array.getElem?_append, if_pos (by simpa using hil)]
          simp at hb
          simp [hb])
      rw [bytesIV_len] at k1 k2 k3 k4
      exact ⟨_, _, _, _, _, h, hrun, k2, k3, k1, k4 _ (Nat.le_refl _)⟩
    · exact h.elim
  · rename_i e hk hk'
    split at h
    · rename_i hu8
      have hue : P.underlying e = some (.int .u8) := by
        unfold isU8 at hu8
        split at hu8
        · rename_i hk8; exact td_int hT hk8
        · simp at hu8
      unfold bytesStr at h
      split at h
      · exact h.elim
      · rename_i x hns
        have hsl : ∃ a n cap, v = .slice a n cap := by
          unfold elemsOf at h
          split at h
          · exact ⟨none, 0, 0, hx⟩
          · obtain ⟨a, rfl⟩ := hx; exact ⟨a, 0, 0, rfl⟩
          · cases hx; exact ⟨_, _, _, rfl⟩
          · rename_i s; exact absurd rfl (hns s)
          · obtain ⟨r, _, a, cap, rfl, _⟩ := hx; exact ⟨_, _, _, rfl⟩
          · exact h.elim
        obtain ⟨xs, ⟨s, rfl, hK⟩, hxs, hlen, hcells⟩ := elemsOf_sound (P := P) hs hx h
        obtain ⟨c, hc, hL⟩ := hcells (bytesIV s).length (Nat.le_refl _)
        rw [List.take_length] at hL
        refine Gives.w hs (gives _ _ hK ?_ (.str s))
        obtain ⟨a, n, cap, rfl⟩ := hsl
        have hn : n = (bytesIV s).length := by simpa [Builtin.lenOf] using hlen
        rw [bytesIV_len] at hn
        rw [run_convert_bytes_string w src dst e a n cap (td_slice hT hk) hue (td_str hT hk')]
        cases a with
        | none =>
          have hs0 : s.size = 0 := by
            have := hL.1
            have hc0 := hc w rfl
            simp [Builtin.firstCells] at hc0
            rw [flat_len (bytesIV_each s), bytesIV_len] at this
            subst hc0
            simpa using this
          have : s = ByteArray.empty := by
            apply ByteArray.ext
            exact Array.eq_empty_of_size_eq_zero hs0
          rw [this]
          simp [Conv.bytesToString]
        | some a =>
          have hlc := loadCells_bytes (P := P) (w := w) rfl hn (by have := hc w rfl; rwa [bytesIV_len, ← hn] at this) hL
          rw [run_bytesToString w a n cap _ hlc, fold_push]
          simp
    · exact h.elim
  · exact h.elim

theorem aMakeSlice_sound (hT : TyOk P E) {w : World} {g : Gh} {H : List Blk} (hs : Sim E w g H) {t : Nat} {x y : AV} {u v : Value} {K : AV → List Blk → Prop} (hx : AVR w g x u) (hy : AVR w g y v) (h : aMakeSlice E t x y H K) :
    GivesW E w g H (Instr.makeSlice t u v) P K := by
  unfold aMakeSlice at h
  split at h
  · rename_i e kl l kc c hk
    split at h
    · rename_i z hz hb
      simp only [Bool.and_eq_true] at hb
      have hpos : 0 < (E.td e).size := by simpa using hb.1.1
      have hzl : (E.td e).zero.length = (E.td e).size := Nat.eq_of_beq_eq_true hb.1.2
      have hby : 0 < (E.td e).bytes := by simpa using hb.2
      obtain ⟨h0, h1, h2, hK⟩ := h
      have e1 := rd_int hx; have e2 := rd_int hy; subst e1 e2
      obtain ⟨i, D, hi, hD, htd⟩ := td_inv hT (t := e) (.inl hpos)
      have hib : i.bytes = (E.td e).bytes := by rw [htd, (tdIn_size i D).2]
      have his : i.size = (E.td e).size := by rw [htd, (tdIn_size i D).1]
      obtain ⟨zv, hzr, hz1, hz2⟩ := run_zero_td (P := P) hT (t := e) (by omega) w
      have hiz : i.zero = some zv := by
        simp only [zeroValue, typeInfo, Sem.run_bind, run_program, Result.andThen, hi, Sem.run_pure] at hzr
        cases hq : i.zero with
        | none => simp [hq, unsupported, Sem.run] at hzr
        | some q => simp [hq] at hzr; rw [hzr]
      have hzs : zv.cells.size = (E.td e).size := by rw [← hzl, hz2]; simp
      have hc63 : c ≤ 9223372036854775807 := by
        have : 1 * c ≤ ((E.td e).bytes : Int) * c := Int.mul_le_mul_of_nonneg_right (by omega) (by omega)
        omega
      have hrun := run_make (P := P) w t e i zv (td_slice hT hk) hi hiz kl kc l c h0 h1 (by rw [hib]; omega) hc63
      have hzL : L2 (Rd w g.imm) z zv.cells.toList := by
        have : L2 (A1R w g) (E.td e).zero zv.cells.toList := by
          rw [hz2, L2.map]
          refine ⟨rfl, fun i a ha => ⟨a, ha, a1R_zero ?_⟩⟩
          exact List.all_eq_true.1 hz1 a (List.mem_of_getElem? ha)
        exact L2.imms hz this
      have hzlen : z.length = (E.td e).size := by rw [hzL.1]; simpa using hzs
      obtain ⟨k1, k2, k3, k4⟩ := sim_row (gr := false) (sz := (E.td e).size) (elems := List.replicate l.toNat z) (cap := c.toNat) (w' := w.alloc (.cells (madeCells zv.cells (c.toNat * i.size)) e)) hs ⟨_, rfl⟩ (heap_alloc_new w _) rfl rfl rfl
        (fun i _ => by simp) (by rw [size_madeCells, his]) (by simp; omega) (fun x hx => by rw [List.eq_of_mem_replicate hx]; exact hzlen) (fun j x hj m y hm => by
          rw [List.getElem?_replicate] at hj
          split at hj
          · rename_i hjl
            simp at hj; subst hj
            obtain ⟨b, hb1, hb2⟩ := hzL.2 m y hm
            have hml : m < (E.td e).size := by rw [← hzlen]; exact (List.getElem?_eq_some_iff.1 hm).1
            refine ⟨b, ?_, hb2⟩
            have hlt : j * (E.td e).size + m < c.toNat * i.size := by
              rw [his]
              have : (j + 1) * (E.td e).size ≤ c.toNat * (E.td e).size := Nat.mul_le_mul_right _ (by omega)
              rw [Nat.add_mul] at this; omega
            simp only [madeCells]
            rw [Array.getElem?_map, Array.getElem?_range, if_pos hlt]
            simp only [Option.map_some, Option.some.injEq]
            have hmod : (j * (E.td e).size + m) % zv.cells.size = m := by
              rw [hzs, Nat.mul_comm, Nat.mul_add_mod, Nat.mod_eq_of_lt hml]
            have hmz : m < zv.cells.size := by omega
            rw [hmod, getElem!_pos zv.cells m hmz]
            have : zv.cells[m]? = some b := by simpa using hb1
            rw [Array.getElem?_eq_getElem hmz] at this
            simpa using this
          · simp at hj)
      rw [List.length_replicate] at k1 k2 k3 k4
      exact ⟨_, _, _, _, _, hK, hrun, k2, k3, k1, k4 _ (Nat.le_refl _)⟩
    · exact h.elim
  · exact h.elim

/-! ### literals -/

theorem fold_put : ∀ (l : List Value) (cs : Array Value) (off k : Nat), (l.zipIdx k).foldl (fun (cs : Array Value) (p : Value × Nat) => cs.setIfInBounds (off + p.2) p.1) cs = putAt cs (off + k) l
  | [], cs, off, k => rfl
  | v :: t, cs, off, k => by
    simp only [List.zipIdx_cons, List.foldl_cons, putAt]
    rw [fold_put t _ off (k + 1), Nat.add_assoc]

theorem fill_sound {w : World} {g : Gh} {place : Nat → Option (Nat × Nat)} {places : List (Nat × Nat)} (hp : ∀ i p, places[i]? = some p → place i = some p) :
    ∀ (parts : List (Nat × AV)) (vs : List (Nat × Value)) (acc : List A1) (cells : Array Value) (out : List A1), L2 (fun (a : Nat × AV) (b : Nat × Value) => a.1 = b.1 ∧ AVR w g a.2 b.2) parts vs → L2 (A1R w g) acc cells.toList → (∀ p ∈ places, 0 < p.2) →
      buildCells parts places acc = some out → ∃ c, Instr.fill place cells vs = some c ∧ L2 (A1R w g) out c.toList
  | [], vs, acc, cells, out, hv, hL, _, h => by
    rw [hv.nil_inv]
    simp [buildCells] at h; subst h
    exact ⟨cells, rfl, hL⟩
  | (i, x) :: parts, vs, acc, cells, out, hv, hL, hpos, h => by
    obtain ⟨⟨i', v⟩, vs', rfl, ⟨rfl, hx⟩, ht⟩ := hv.uncons
    simp only [buildCells] at h
    split at h
    · rename_i o sz hpl
      split at h
      · rename_i hb1 hb2
        have hsz : x.cells.length = sz := Nat.eq_of_beq_eq_true hb1
        have hle : o + sz ≤ acc.length := Nat.le_of_ble_eq_true hb2
        have h0 := hpos _ (List.mem_of_getElem? hpl)
        simp only at h0
        have hxc := hx.cells (by intro e; rw [e] at hsz; simp at hsz; omega)
        have hvl : v.cells.toList.length = sz := by rw [← hxc.1, hsz]
        have hcl : acc.length = cells.size := by simpa using hL.1
        have hput : L2 (A1R w g) (splice acc o x.cells) (putAt cells o v.cells.toList).toList := by
          rw [putAt_toList _ _ _ (by omega)]
          exact hL.splice hxc o
        obtain ⟨c, k1, k2⟩ := fill_sound hp parts vs' _ _ out ht hput hpos h
        refine ⟨c, ?_, k2⟩
        have hvs : v.cells.size = sz := by simpa using hvl
        have hfold : v.cells.zipIdx.foldl (fun (cs : Array Value) (p : Value × Nat) => cs.setIfInBounds (o + p.2) p.1) cells = putAt cells o v.cells.toList := by
          rw [← Array.foldl_toList, Array.toList_zipIdx, fold_put]; rfl
        simp only [Instr.fill, hp _ _ hpl]
        rw [if_neg (by simp [hvs]; omega)]
        rw [← k1]; congr 1
      · simp at h
    · simp at h

theorem mapM_places (hT : TyOk P E) {w : World} : ∀ (fs : List Field), (∀ f ∈ fs, 0 < (E.td f.type).size) → (fs.mapM fun f => (do pure (f.offset, ← sizeOf f.type) : Sem (Nat × Nat))).run P w = .ok (fs.map fun f => (f.offset, (E.td f.type).size)) w
  | [], _ => by simp
  | f :: fs, h => by
    rw [List.mapM_cons]
    have ih := mapM_places hT (w := w) fs (fun f hf => h f (by simp [hf]))
    simp only [Sem.run_bind, run_sizeOf_td hT (h f (by simp)) w, Result.andThen, Sem.run_pure, ih, List.map_cons]

theorem zeroL {w : World} {g : Gh} {z : Value} (h : z.cells.toList.all Value.oneCell' = true) : L2 (A1R w g) (z.cells.toList.map a1Of) z.cells.toList :=
  L2.map.2 ⟨rfl, fun _ a ha => ⟨a, ha, a1R_zero (List.all_eq_true.1 h a (List.mem_of_getElem? ha))⟩⟩

theorem range_get (n k i : Nat) (p : Nat × Nat) (h : ((List.range n).map fun i => (i * k, k))[i]? = some p) : p = (i * k, k) := by
  simp only [List.getElem?_map, Option.map_eq_some_iff] at h
  obtain ⟨a, h1, rfl⟩ := h
  have := List.getElem?_eq_some_iff.1 h1
  obtain ⟨h2, h3⟩ := this
  simp at h3; subst h3; rfl

theorem aBuild_sound (hT : TyOk P E) {w : World} {g : Gh} {t : Nat} {parts : List (Nat × AV)} {vs : List (Nat × Value)} {K : AV → Prop}
    (hv : L2 (fun (a : Nat × AV) (b : Nat × Value) => a.1 = b.1 ∧ AVR w g a.2 b.2) parts vs) (h : aBuild E t parts K) : Gives w g (Instr.build t vs.toArray) P K := by
  unfold aBuild at h
  split at h
  · rename_i fs hk
    obtain ⟨gs, hu, rfl⟩ := td_struct hT hk
    split at h
    · rename_i hb
      simp only [Bool.and_eq_true, List.all_eq_true, List.mem_map, forall_exists_index, and_imp, forall_apply_eq_imp_iff₂] at hb
      obtain ⟨hb1, hb2⟩ := hb
      have hpos : ∀ f ∈ gs.toList, 0 < (E.td f.type).size := fun f hf => by simpa using hb1 f hf
      split at h
      · rename_i cs hbc
        obtain ⟨z, hzr, hz1, hz2⟩ := run_zero_td (P := P) hT (t := t) (by simpa using hb2) w
        rw [hz2, List.map_map] at hbc
        obtain ⟨c, k1, k2⟩ := fill_sound (w := w) (g := g) (place := fun i => (gs.toList.map fun f => (f.offset, (E.td f.type).size)).toArray[i]?) (places := gs.toList.map fun f => (f.offset, (E.td f.type).size)) (fun i p hp => by simpa using hp) parts vs _ z.cells cs hv (zeroL hz1)
          (fun p hp => by simp only [List.mem_map] at hp; obtain ⟨f, hf, rfl⟩ := hp; exact hpos f hf) hbc
        refine ⟨_, .agg c, h, ?_, ⟨c, rfl, k2⟩⟩
        have hm : (gs.mapM fun f => (do pure (f.offset, ← sizeOf f.type) : Sem (Nat × Nat))).run P w = .ok (gs.toList.map fun f => (f.offset, (E.td f.type).size)).toArray w := by
          rw [Array.mapM_eq_mapM_toList, Sem.run_map, mapM_places hT gs.toList hpos]
          rfl
        simp only [Instr.build, Sem.run_bind, hzr, Result.andThen, run_underlying hu, hm, k1, Sem.run_pure]
      · exact h.elim
    · exact h.elim
  · rename_i n e hk
    have hu := td_array hT hk
    split at h
    · rename_i hb
      simp only [Bool.and_eq_true] at hb
      have hpos : 0 < (E.td e).size := by simpa using hb.1
      split at h
      · rename_i cs hbc
        obtain ⟨z, hzr, hz1, hz2⟩ := run_zero_td (P := P) hT (t := t) (by simpa using hb.2) w
        rw [hz2] at hbc
        obtain ⟨c, k1, k2⟩ := fill_sound (w := w) (g := g) (place := fun i => some (i * (E.td e).size, (E.td e).size)) (fun i p hp => by rw [range_get n _ i p hp]) parts vs _ z.cells cs hv (zeroL hz1)
          (fun p hp => by simp only [List.mem_map] at hp; obtain ⟨f, hf, rfl⟩ := hp; exact hpos) hbc
        refine ⟨_, .agg c, h, ?_, ⟨c, rfl, k2⟩⟩
        simp only [Instr.build, Sem.run_bind, hzr, Result.andThen, run_underlying hu, run_sizeOf_td hT hpos w, k1, Sem.run_pure]
      · exact h.elim
    · exact h.elim
  · exact h.elim

end
end Go.Abs

namespace Go.Abs
open Go
set_option linter.unusedSimpArgs false

section
variable {P : Program} {E : Env}

theorem flatc_len {α : Type} (l : List α) : ∀ n, (((List.range n).map fun _ => l).flatten).length = n * l.length
  | 0 => by simp
  | n + 1 => by
    rw [List.range_succ, List.map_append, List.flatten_append, List.length_append, flatc_len l n, Nat.add_mul]
    simp

theorem flat_zeros (z : Array Value) (n : Nat) (h : 0 < z.size) : ((Array.range (n * z.size)).map (z[· % z.size]!)).toList = ((List.range n).map fun _ => z.toList).flatten := by
  apply List.ext_getElem?
  intro k
  have hfl : ∀ (m : Nat) (k : Nat), (((List.range m).map fun _ => z.toList).flatten)[k]? = if k < m * z.size then some (z[k % z.size]!) else none := by
    intro m
    induction m with
    | zero => intro k; simp
    | succ m ih =>
      intro k
      rw [List.range_succ, List.map_append, List.flatten_append, List.getElem?_append]
      have hlen : ((List.range m).map fun _ => z.toList).flatten.length = m * z.size := by
        rw [flatc_len]; simp
      rw [hlen, ih]
      by_cases h1 : k < m * z.size
      · rw [if_pos h1, if_pos h1, if_pos (by rw [Nat.add_mul]; omega)]
      · rw [if_neg h1]
        simp only [List.map_cons, List.map_nil, List.flatten_cons, List.flatten_nil, List.append_nil]
        by_cases h2 : k < (m + 1) * z.size
        · rw [if_pos h2]
          have hk : k - m * z.size < z.size := by rw [Nat.add_mul] at h2; omega
          have hmod : k % z.size = k - m * z.size := by
            have : k = z.size * m + (k - m * z.size) := by rw [Nat.mul_comm]; omega
            rw [this, Nat.mul_add_mod, Nat.mod_eq_of_lt (by rw [Nat.mul_comm]; omega)]
            rw [Nat.mul_comm]; omega
          rw [hmod, getElem!_pos z _ hk]
          simp [hk]
        · rw [if_neg h2]
          rw [Nat.add_mul] at h2
          simp; omega
  rw [hfl]
  simp only [Array.getElem?_toList, Array.getElem?_map, Array.getElem?_range]
  split <;> rfl

theorem L2.flat {α β : Type} {R : α → β → Prop} {l : List α} {m : List β} (h : L2 R l m) : ∀ n, L2 R ((List.range n).map fun _ => l).flatten ((List.range n).map fun _ => m).flatten
  | 0 => .nil
  | n + 1 => by
    simp only [List.range_succ, List.map_append, List.flatten_append, List.map_cons, List.map_nil, List.flatten_cons, List.flatten_nil, List.append_nil]
    exact (L2.flat h n).append h

def Gh.more (g : Gh) (b : Nat) : Gh := ⟨fun k => g.imm k ∨ k = b, g.own⟩

/-- a new block that is nobody's to write -/
theorem sim_imm {w w' : World} {g : Gh} {H : List Blk} {o : Obj} (hs : Sim E w g H) (hh : w'.heap = w.heap.push o) (h1 : w'.os = w.os) (h2 : w'.tape = w.tape) (h3 : w'.output = w.output) :
    Sim E w' (g.more w.heap.size) H ∧ Step w g H w' (g.more w.heap.size) H ∧ OwnLe g (g.more w.heap.size) := by
  have hrd : ∀ iv v, Rd w g.imm iv v → Rd w' (g.more w.heap.size).imm iv v := fun iv v h => h.keep (fun _ h => .inl h) (fun b hb => heap_push hh b (hs.lt b hb))
  have hsz : w'.heap.size = w.heap.size + 1 := by rw [hh]; simp
  refine ⟨⟨fun id B hid => BlkR.keep (g := g) (g' := g.more w.heap.size) hrd (.of_eq rfl) rfl (fun hl r hr => heap_push hh _ (blk_lt (hs.blk id B hid) hl hr)) (hs.blk id B hid), hs.dis, ?_, ?_, hs.nil, fun k cells hk => hrd _ _ (hs.glob k cells hk)⟩,
    ⟨h1, h2, h3, by omega, fun b hb _ => heap_push hh b hb, fun _ h => .inl h, ?_, fun b hb => .inl hb⟩, .of_eq rfl⟩
  · rintro b hb (hi | rfl)
    · exact hs.imm b hb hi
    · have : Owned g H w.heap.size := hb
      have := hs.own_lt this; omega
  · rintro b (hb | rfl)
    · have := hs.lt b hb; omega
    · omega
  · rintro b (hb | rfl)
    · exact .inl hb
    · exact .inr (.inr (Nat.le_refl _))

theorem frzL_imms (d : Nat) (H : List Blk) : ∀ (cs : List A1) (vs : List IV), imms cs = some vs → frzL (frz (d + 1)) cs H = some (vs, H)
  | [], vs, h => by simp [imms] at h; subst h; rfl
  | a :: t, vs, h => by
    cases a <;> simp [imms] at h
    obtain ⟨w, h1, rfl⟩ := h
    unfold frzL
    rw [show frz (d + 1) H (.imm _) = some (_, H) from rfl]
    simp only [frzL_imms d H t w h1]

theorem aBuildSliceD_to {t n : Nat} {parts : List (Nat × AV)} {H : List Blk} {K : AV → List Blk → Prop} (h : aBuildSliceD E t n parts fun v => K v H) : aBuildSlice E true t n parts H K := by
  unfold aBuildSliceD at h
  split at h
  · rename_i hk
    split at h
    · rename_i hb hc
      split at h
      · rename_i vs hf
        have := frzL_imms 7 H _ _ hf
        simp only [aBuildSlice, hk, hb, hc, frzDepth, this]
        exact h
      · exact h.elim
    · exact h.elim
  · exact h.elim

theorem aBuildSlice_sound (hT : TyOk P E) {w : World} {g : Gh} {H : List Blk} (hs : Sim E w g H) {fz : Bool} {t n : Nat} {parts : List (Nat × AV)} {vs : List (Nat × Value)} {K : AV → List Blk → Prop}
    (hv : L2 (fun (a : Nat × AV) (b : Nat × Value) => a.1 = b.1 ∧ AVR w g a.2 b.2) parts vs) (h : aBuildSlice E fz t n parts H K) : GivesW E w g H (Instr.buildSlice t n vs.toArray) P K := by
  unfold aBuildSlice at h
  split at h
  · rename_i e hk
    have hu := td_slice hT hk
    split at h
    · rename_i cs hb hbc
      simp only [Bool.and_eq_true] at hb
      obtain ⟨⟨hb1, hb2⟩, hb3⟩ := hb
      have hpos : 0 < (E.td e).size := by simpa using hb1
      have hzl : (E.td e).zero.length = (E.td e).size := Nat.eq_of_beq_eq_true hb2
      have hbig : n * (E.td e).size ≤ 16777216 := Nat.le_of_ble_eq_true hb3
      obtain ⟨z, hzr, hz1, hz2⟩ := run_zero_td (P := P) hT (t := e) (by omega) w
      have hzs : z.cells.size = (E.td e).size := by rw [← hzl, hz2]; simp
      rw [hz2] at hbc
      have hz0 : L2 (A1R w g) ((List.range n).map fun _ => z.cells.toList.map a1Of).flatten ((Array.range (n * z.cells.size)).map (z.cells[· % z.cells.size]!)).toList := by
        rw [flat_zeros _ _ (by omega)]; exact (zeroL hz1).flat n
      obtain ⟨c, k1, k2⟩ := fill_sound (w := w) (g := g) (place := fun i => some (i * (E.td e).size, (E.td e).size)) (fun i p hp => by rw [range_get n _ i p hp]) parts vs _ ((Array.range (n * z.cells.size)).map (z.cells[· % z.cells.size]!)) cs hv hz0
        (fun p hp => by simp only [List.mem_map] at hp; obtain ⟨f, hf, rfl⟩ := hp; exact hpos) hbc
      cases hfz : frzL (frz frzDepth) cs H with
      | none => simp [hfz] at h
      | some p =>
        obtain ⟨ivs, H1⟩ := p
        simp only [hfz] at h
        obtain ⟨g1, o1, s1, st1, r1, l1⟩ := frzL_sound (frz_sound frzDepth) cs hs k2 hfz
        have hrun : (Instr.buildSlice t n vs.toArray).run P w = .ok (.slice (some ⟨w.heap.size, 0, none⟩) n n) (w.alloc (.cells c e)) := by
          have hnl : ¬ n * (E.td e).size > 2 ^ 24 := by omega
          by_cases hn0 : n * (E.td e).size = 0
          · have hn : n = 0 := by
              rcases Nat.mul_eq_zero.1 hn0 with h | h <;> omega
            subst hn
            simp only [Nat.zero_mul] at k1
            simp only [Instr.buildSlice, Sem.run_bind, run_underlying hu, Result.andThen, run_sizeOf_td hT hpos w, if_neg hnl, Nat.zero_mul, if_pos, Sem.run_pure, Sem.run_ite]
            have hr0 : (Array.range 0).map (z.cells[· % z.cells.size]!) = #[] := by simp
            have hr1 : (Array.range 0).map (((#[] : Array Value))[· % (#[] : Array Value).size]!) = #[] := by simp
            rw [hr0] at k1
            rw [hr1]
            simp [k1, newRow]
          · rw [hzs] at k1
            simp only [Instr.buildSlice, Sem.run_bind, run_underlying hu, Result.andThen, run_sizeOf_td hT hpos w, if_neg hnl, if_neg hn0, hzr, Sem.run_pure, Sem.run_ite, hzs, k1, newRow, run_newObj_alloc]
        -- c's size
        have hcsz : cs.length = n * (E.td e).size := by
          have := buildCells_len hbc
          rw [this, flatc_len]
          simp [hzs]
        have hivl : ivs.length = n * (E.td e).size := by rw [r1.1, ← k2.1, hcsz]
        have hcc : c.size = n * (E.td e).size := by have := k2.1; simp at this; omega
        obtain ⟨q1, q2, q3, q4⟩ := sim_row (gr := false) (sz := (E.td e).size) (elems := chunk n (E.td e).size ivs) (cap := n) (w' := w.alloc (.cells c e)) s1 ⟨_, rfl⟩ (heap_alloc_new w _) rfl rfl rfl
          (fun i _ => by simp) hcc (by rw [chunk_len]; exact Nat.le_refl _) (chunk_each _ _ _ hivl) (fun i x hi j y hj => by
            have hjl : j < (E.td e).size := by rw [← chunk_each n _ ivs hivl x (List.mem_of_getElem? hi)]; exact (List.getElem?_eq_some_iff.1 hj).1
            obtain ⟨b, b1, b2⟩ := r1.2 _ _ (chunk_get n _ ivs i j x y hi hj hjl)
            exact ⟨b, by simpa using b1, b2⟩)
        rw [chunk_len] at q1 q2 q3 q4
        cases fz with
        | false => exact ⟨_, _, _, _, _, h, hrun, st1.trans q2, (OwnLe.of_eq o1).trans q3, q1, q4 n (Nat.le_refl _)⟩
        | true =>
          simp only at h
          -- at once immutable
          obtain ⟨s3, st3, e3⟩ := sim_imm (w' := w.alloc (.cells c e)) (o := .cells c e) s1 rfl rfl rfl rfl
          refine ⟨_, _, _, g1.more w.heap.size, H1, h, hrun, st1.trans st3, (OwnLe.of_eq o1).trans e3, s3, ?_⟩
          refine .lst _ _ n n (E.td e).size (fun i j => (c[i * (E.td e).size + j]?).getD undef) (by rw [chunk_len]) (Nat.le_refl _) (fun i x hx => chunk_each _ _ _ hivl x (List.mem_of_getElem? hx)) ?_ (fun i j x y hi hj => ?_)
          · right
            refine ⟨w.heap.size, 0, rfl, .inr rfl, fun i j hi hj => ?_⟩
            rw [chunk_len] at hi
            have hlt : i * (E.td e).size + j < c.size := by
              rw [hcc]
              have : (i + 1) * (E.td e).size ≤ n * (E.td e).size := Nat.mul_le_mul_right _ hi
              rw [Nat.add_mul] at this; omega
            rw [cell_of (heap_alloc_new w _), Nat.zero_add, Array.getElem?_eq_getElem hlt]; rfl
          · have hjl : j < (E.td e).size := by rw [← chunk_each n _ ivs hivl x (List.mem_of_getElem? hi)]; exact (List.getElem?_eq_some_iff.1 hj).1
            obtain ⟨b, b1, b2⟩ := r1.2 _ _ (chunk_get n _ ivs i j x y hi hj hjl)
            have : c[i * (E.td e).size + j]? = some b := by simpa using b1
            show Rd _ _ y ((c[i * (E.td e).size + j]?).getD undef)
            rw [this]
            exact Rd.step s1 st3 b2
    · exact h.elim
  · exact h.elim
where
  buildCells_len : ∀ {parts : List (Nat × AV)} {places : List (Nat × Nat)} {acc out : List A1}, buildCells parts places acc = some out → out.length = acc.length := by
    intro parts
    induction parts with
    | nil => intro places acc out h; simp [buildCells] at h; rw [h]
    | cons p parts ih =>
      obtain ⟨i, v⟩ := p
      intro places acc out h
      simp only [buildCells] at h
      split at h
      · rename_i o sz hpl
        split at h
        · rename_i hb1 hb2
          rw [ih h, splice_len]
          have := Nat.eq_of_beq_eq_true hb1
          have := Nat.le_of_ble_eq_true hb2
          omega
        · simp at h
      · simp at h

end
end Go.Abs

namespace Go.Abs
open Go
set_option linter.unusedSimpArgs false

section
variable {P : Program} {E : Env}

theorem aCopy_sound (hT : TyOk P E) {w : World} {g : Gh} {H : List Blk} (hs : Sim E w g H) {ts : Array Nat} {ty t : Nat} (ht : ts[0]? = some t) {x y : AV} {v q : Value} {K : AV → List Blk → Prop}
    (hx : AVR w g x v) (hy : AVR w g y q) (h : aCopy E t x y H K) : GivesW E w g H (Builtin.copy_ ts ty #[v, q]) P K := by
  unfold aCopy at h
  split at h
  · rename_i e hk
    have hu := td_slice hT hk
    obtain ⟨xs, h, hxs, hlen, hcells⟩ := elemsOf_sound (P := P) hs hy h
    unfold copyTo at h
    split at h
    · rename_i id off len _
      split at h
      · rename_i sz elems _ hl
        split at h
        · rename_i hb
          simp only [Bool.and_eq_true] at hb
          have hsz : sz = (E.td e).size := Nat.eq_of_beq_eq_true hb.1
          have hz : 0 < (E.td e).size := by simpa using hb.2
          subst hsz
          have hid := getD_get hl (by simp)
          obtain ⟨r, hr, a, cap, rfl, q1, q2, q3, q4, q5⟩ := hx
          obtain ⟨hes, r0, rs, ho, hn0, hg, hlt, hv⟩ := hs.blk id _ hid
          obtain ⟨hrs, hr0⟩ := hg rfl
          rw [ho, hrs] at hr
          simp at hr
          subst hr
          have hver := hv r (by simp)
          obtain ⟨cc, tty, fz, hb', huf, hcs, _, hm⟩ := hver.mem
          have hbl : r.blk < w.heap.size := blk_lt (hs.blk id _ hid) rfl (r := r) (by rw [ho]; simp)
          obtain ⟨c, hc, hcL⟩ := hcells (Nat.min xs.length len) (Nat.min_le_left _ _)
          have htk : xs.take (Nat.min xs.length len) = xs.take len := by
            rcases Nat.le_total xs.length len with h' | h'
            · rw [show Nat.min xs.length len = xs.length from Nat.min_eq_left h', List.take_length, List.take_of_length_le h']
            · rw [show Nat.min xs.length len = len from Nat.min_eq_right h']
          rw [htk] at hcL
          have hm' : (xs.take len).length = Nat.min xs.length len := by rw [List.length_take]; exact Nat.min_comm _ _
          have hxs' : ∀ e' ∈ xs.take len, e'.length = (E.td e).size := fun e' he' => hxs e' (List.mem_of_mem_take he')
          have hcl : c.toList.length = Nat.min xs.length len * (E.td e).size := by rw [← hcL.1, flat_len hxs', hm']
          have hvals : L2 (A1R w g) ((xs.take len).flatten.map A1.imm) c.toList := L2.map.2 hcL
          have hmle : Nat.min xs.length len ≤ len := Nat.min_le_right _ _
          have hin : off * (E.td e).size + c.toList.length ≤ cc.size := by
            rw [hcl, hcs, ← Nat.add_mul]; exact Nat.mul_le_mul_right _ (by omega)
          have hstore : ∃ w', (storeCells a c.toList).run P w = .ok () w' ∧ w'.heap = w.heap.setIfInBounds r.blk (.cells (putAt cc (off * (E.td e).size) c.toList) tty fz) ∧ w'.os = w.os ∧ w'.tape = w.tape ∧ w'.output = w.output := by
            rcases q5 with q5 | rfl
            · have hc0 : c.toList = [] := List.eq_nil_of_length_eq_zero (by rw [hcl, show Nat.min xs.length len = 0 by omega, Nat.zero_mul])
              rw [hc0]
              refine ⟨w, by simp [storeCells], ?_, rfl, rfl, rfl⟩
              apply Array.ext_getElem?
              intro j
              rw [Array.getElem?_setIfInBounds]
              by_cases ej : r.blk = j
              · rw [if_pos ej, if_pos hbl, ← ej, hb']; rfl
              · rw [if_neg ej]
            · obtain ⟨w', k1, k2, k3, k4, k5⟩ := run_storeCells_put (P := P) c.toList 0 (off * (E.td e).size) cc w hb' huf (by omega) (a1R_one hvals)
              rw [Nat.add_zero] at k2
              refine ⟨w', ?_, k2, k3, k4, k5⟩
              rw [hver.hz, hr0, Nat.sub_zero]; exact k1
          obtain ⟨w', k1, k2, k3, k4, k5⟩ := hstore
          have hrun : (Builtin.copy_ ts ty #[.slice (some a) len cap, q]).run P w = .ok (goInt (Nat.min xs.length len)) w' := by
            simp only [Builtin.copy_, ht, List.getElem?_toArray, List.getElem?_cons_zero, List.getElem?_cons_succ, Sem.run_bind, run_underlying hu, Result.andThen, hlen, run_sizeOf_td hT hz w, hc w rfl, k1, Sem.run_pure]
          have hob : Owned g H r.blk := ⟨id, _, hid, rfl, r, by rw [ho]; simp, rfl⟩
          have hrd : ∀ iv v, Rd w g.imm iv v → Rd w' g.imm iv v := fun iv v h => h.keep (fun _ h => h) (fun k hk => by rw [k2, Array.getElem?_setIfInBounds, if_neg (fun (e : r.blk = k) => hs.imm _ hob (e ▸ hk))])
          have hsl : off + (xs.take len).length ≤ elems.length := by rw [hm']; have := hver.le; omega
          have hB : BlkR w' g id (.vec (E.td e).size (splice elems off (xs.take len)) false) := by
            refine ⟨fun x hx => ?_, r, [], by rw [ho, hrs], by rw [splice_len hsl]; exact hn0, fun _ => ⟨rfl, hr0⟩, by simp, fun v1 hv1 => ?_⟩
            · simp only [splice, List.mem_append] at hx
              rcases hx with hx | hx | hx
              · exact hes x (List.mem_of_mem_take hx)
              · exact hxs' x hx
              · exact hes x (List.mem_of_mem_drop hx)
            · simp at hv1; subst hv1
              refine ⟨hver.hz, by rw [splice_len hsl]; exact hver.le, hver.st, hver.cap, _, tty, fz, by rw [k2, Array.getElem?_setIfInBounds, if_pos rfl, if_pos hbl], by rw [putAt_size]; exact huf, by rw [putAt_size]; exact hcs, (fun _ h => by cases h), fun i x h1 h2 hix j z hjz => ?_⟩
              rw [hr0, Nat.sub_zero, putAt_get hin, hcl]
              rw [splice_get hsl, hm'] at hix
              have old : elems[i]? = some x → ∃ u, cc[i * (E.td e).size + j]? = some u ∧ Rd w' g.imm z u := fun hix => by
                obtain ⟨b, b1, b2⟩ := hm i x h1 h2 hix j z hjz
                rw [hr0, Nat.sub_zero] at b1
                exact ⟨b, b1, hrd _ _ b2⟩
              have jlt : x.length = (E.td e).size → j < (E.td e).size := fun h => by rw [← h]; exact (List.getElem?_eq_some_iff.1 hjz).1
              by_cases i1 : i < off
              · rw [if_pos i1] at hix
                have := jlt (hes x (List.mem_of_getElem? hix))
                have h3 : (i + 1) * (E.td e).size ≤ off * (E.td e).size := Nat.mul_le_mul_right _ i1
                rw [Nat.add_mul] at h3
                rw [if_pos (by omega)]; exact old hix
              · rw [if_neg i1] at hix
                have hle3 : off * (E.td e).size ≤ i * (E.td e).size := Nat.mul_le_mul_right _ (by omega)
                by_cases i2 : i < off + Nat.min xs.length len
                · rw [if_pos i2] at hix
                  have := jlt (hxs' x (List.mem_of_getElem? hix))
                  have h3 : (i + 1) * (E.td e).size ≤ (off + Nat.min xs.length len) * (E.td e).size := Nat.mul_le_mul_right _ i2
                  rw [Nat.add_mul, Nat.add_mul] at h3
                  obtain ⟨b, b1, b2⟩ := hcL.2 _ _ (flat_at hxs' hix hjz)
                  rw [if_neg (by omega), if_pos (by omega)]
                  refine ⟨b, ?_, hrd _ _ b2⟩
                  rw [← b1]; congr 1
                  rw [Nat.sub_mul]; omega
                · rw [if_neg i2] at hix
                  have h3 : (off + Nat.min xs.length len) * (E.td e).size ≤ i * (E.td e).size := Nat.mul_le_mul_right _ (by omega)
                  rw [Nat.add_mul] at h3
                  rw [if_neg (by omega), if_neg (by omega)]; exact old hix
          obtain ⟨s1, s2⟩ := sim_write hs hid rfl (B' := .vec (E.td e).size (splice elems off (xs.take len)) false) rfl ⟨r, by rw [ho]; simp, rfl⟩ k2 k3 k4 k5 hB
          exact ⟨_, _, w', g, _, h, hrun, s2, .refl g, s1, .int _ _⟩
        · exact h.elim
      · exact h.elim
    · exact h.elim
  · exact h.elim

theorem avr_one {w : World} {g : Gh} {a : A1} {v : Value} (h : A1R w g a v) : AVR w g (.one a) v := h

/-- a literal's parts -/
theorem partsR {w : World} {g : Gh} {f : Operand → AV} {ρ : Operand → Value} (hf : ∀ x, AVR w g (f x) (ρ x)) (parts : Array (Nat × Operand)) :
    L2 (fun (a : Nat × AV) (b : Nat × Value) => a.1 = b.1 ∧ AVR w g a.2 b.2) (parts.toList.map fun p => (p.1, f p.2)) (parts.map fun (i, x) => (i, ρ x)).toList := by
  rw [L2.map]
  refine ⟨by simp, fun i p hp => ⟨(p.1, ρ p.2), by simp at hp ⊢; exact ⟨p.1, p.2, hp, rfl, rfl⟩, rfl, hf p.2⟩⟩

theorem argsR {w : World} {g : Gh} {f : Operand → AV} {ρ : Operand → Value} (hf : ∀ x, AVR w g (f x) (ρ x)) (args : Array Operand) : L2 (AVR w g) (args.toList.map f) (args.map ρ).toList := by
  rw [L2.map]
  exact ⟨by simp, fun i x hx => ⟨ρ x, by simp at hx ⊢; exact ⟨x, hx, rfl⟩, hf x⟩⟩

theorem optR {w : World} {g : Gh} {f : Operand → AV} {ρ : Operand → Value} (hf : ∀ x, AVR w g (f x) (ρ x)) (o : Option Operand) : OptR w g (oapp f o) (o.map ρ) := by
  cases o with
  | none => trivial
  | some x => exact hf x

theorem gives_next {w : World} {g : Gh} {H : List Blk} {s : Sem Value} {K : AV → List Blk → Prop} (h : GivesW E w g H s P K) :
    ∃ av H', K av H' ∧ Yields E w g H ((do pure (.value (← s)) : Sem Next).run P w) av H' := by
  obtain ⟨av, v, w', g', H', h1, h2, h3, h4, h5, h6⟩ := h
  exact ⟨av, H', h1, v, w', g', .inl (by simp [h2, Result.andThen]), h3, h4, h5, h6⟩

/-- an operation that is no call of a Go function -/
theorem keepsK_iff (l : List Nat) (a b : List Blk) (p : Prop) : keepsK l a b p ↔ (∀ i, has l i = true → a.getD i .dead = b.getD i .dead) ∧ p := by
  induction l with
  | nil => simp [keepsK, has]
  | cons j l ih =>
    simp only [keepsK, ih]
    constructor
    · rintro ⟨h1, h2, h3⟩
      refine ⟨fun i hi => ?_, h3⟩
      unfold has at hi
      cases e : Nat.beq j i with
      | true => rw [← Nat.eq_of_beq_eq_true e]; exact h1
      | false => simp only [e] at hi; exact h2 i hi
    · rintro ⟨h1, h3⟩
      refine ⟨h1 j ?_, fun i hi => h1 i ?_, h3⟩
      · unfold has; rw [Nat.beq_refl]
      · unfold has
        cases e : Nat.beq j i with
        | true => rfl
        | false => exact hi
theorem wrapK_to {E : Env} {h : Hint} {draw : Bool} {dst : Option Nat} {op : Op} {heap : List Blk} {K : AV → List Blk → Prop} {v : AV} {H : List Blk} (hk : wrapK E h draw dst op heap K v H) : K v H := by
  unfold wrapK at hk
  generalize (draw && Nat.beq (cls E h dst op) 3) = b at hk
  cases b with
  | true => exact ((keepsK_iff _ _ _ _).1 hk).2
  | false => exact hk
theorem aIndexAddr_nil {t : Nat} {x i : AV} {heap : List Blk} {K : AV → Prop} (h : aIndexAddr E t x i [] K) : aIndexAddr E t x i heap K := by
  unfold aIndexAddr at h ⊢
  generalize (E.td t).k = kk at h ⊢
  cases kk with
  | slice e =>
    cases i with
    | one a =>
      cases a with
      | imm v =>
        cases v with
        | int k n =>
          simp only at h ⊢
          cases hb : Nat.blt 0 (E.td e).size with
          | false => rw [hb] at h; exact h.elim
          | true =>
            rw [hb] at h
            simp only at h ⊢
            cases x with
            | one b => cases b with
              | imm w => cases w <;> exact h
              | sl id off len => simp at h
              | _ => exact h
            | _ => exact h
        | _ => exact h
      | _ => exact h
    | _ => exact h
  | array n e =>
    cases i with
    | one a =>
      cases a with
      | imm v =>
        cases v with
        | int k n =>
          simp only at h ⊢
          cases hb : Nat.blt 0 (E.td e).size with
          | false => rw [hb] at h; exact h.elim
          | true =>
            rw [hb] at h
            simp only at h ⊢
            cases x with
            | one b => cases b with
              | imm w => cases w <;> exact h
              | ref id off => cases off <;> simp at h
              | _ => exact h
            | _ => exact h
        | _ => exact h
      | _ => exact h
    | _ => exact h
  | _ => exact h
theorem aSlice_nil {t : Nat} {x : AV} {lo hi mx : Option AV} {heap : List Blk} {K : AV → Prop} (h : aSlice E t x lo hi mx [] K) : aSlice E t x lo hi mx heap K := by
  cases mx with
  | some m => exact h
  | none =>
    cases x with
    | one a =>
      cases a with
      | sl id off len =>
        unfold aSlice at h
        simp only at h
        split at h
        · rename_i h1 h2; simp at h2
        · exact h.elim
      | imm v => cases v <;> exact h
      | _ => exact h
    | _ => exact h
theorem aLoad_nil {t : Nat} {x : AV} {heap : List Blk} {K : AV → Prop} (h : aLoad E t x [] K) : aLoad E t x heap K := by
  unfold aLoad at h
  split at h
  · exact h
  · simp at h
  · simp at h
  · exact h.elim
theorem immsA_sound {w : World} {g : Gh} : ∀ {l : List AV} {a : List IV} {vs : List Value}, L2 (AVR w g) l vs → immsA l = some a → vs.length = a.length ∧ ∀ (i : Nat) x, a[i]? = some x → Rd w g.imm x (vs.getD i undef)
  | [], a, vs, h, e => by
    have := h.nil_inv; subst this
    simp only [immsA, Option.some.injEq] at e
    subst e
    exact ⟨rfl, fun i x hx => by simp at hx⟩
  | x :: l, a, vs, h, e => by
    obtain ⟨v, m, rfl, hx, ht⟩ := h.uncons
    unfold immsA at e
    split at e
    · exact absurd ‹x :: l = []› (by simp)
    · rename_i iv t heq
      obtain ⟨rfl, rfl⟩ := List.cons.inj heq
      cases hi : immsA l with
      | none => rw [hi] at e; simp at e
      | some b =>
        rw [hi] at e
        simp only [Option.map_some, Option.some.injEq] at e
        subst e
        obtain ⟨h1, h2⟩ := immsA_sound ht hi
        refine ⟨by simp [h1], fun i y hy => ?_⟩
        cases i with
        | zero =>
          simp only [List.getElem?_cons_zero, Option.some.injEq] at hy
          subst hy
          exact hx
        | succ i =>
          simp only [List.getElem?_cons_succ] at hy
          have := h2 i y hy
          simpa [List.getD] using this
    · simp at e

theorem aOpR_sound (hT : TyOk P E) (hE : EqOk P E) {h : Hint} {S : Spec} {draw : Bool} {o : Oper} {w : World} {g : Gh} {fr : Fr} {ρ : Operand → Value} {K : AV → List Blk → Prop} (hs : Sim E w g fr.heap)
    (hf : ∀ x, AVR w g (E.ev fr.tmps x) (ρ x)) (hc : ∀ c x, o.op = .call c → c.callee ≠ .value x) (hk : aOpR E h S draw o.dst o.op fr K) :
    ∃ av H', K av H' ∧ Yields E w g fr.heap ((execOp ρ o).run P w) av H' := by
  have val : ∀ {s : Sem Value}, Gives w g s P (fun v => K v fr.heap) → (execOp ρ o).run P w = (do pure (.value (← s)) : Sem Next).run P w → ∃ av H', K av H' ∧ Yields E w g fr.heap ((execOp ρ o).run P w) av H' :=
    fun hg he => by rw [he]; exact gives_next (Gives.w hs hg)
  have valw : ∀ {s : Sem Value}, GivesW E w g fr.heap s P K → (execOp ρ o).run P w = (do pure (.value (← s)) : Sem Next).run P w → ∃ av H', K av H' ∧ Yields E w g fr.heap ((execOp ρ o).run P w) av H' :=
    fun hg he => by rw [he]; exact gives_next hg
  obtain ⟨dst, op, type, pos, after, guard⟩ := o
  simp only at hk hc
  unfold aOpR at hk
  split at hk
  · rename_i x
    exact val (s := pure (ρ x)) (gives _ _ hk (by simp) (hf _)) (by simp [execOp])
  · rename_i x
    exact val (s := pure (ρ x)) (gives _ _ hk (by simp) (hf _)) (by simp [execOp])
  · rename_i c a b
    have hcv := hf c
    unfold aPick at hk
    split at hk
    · rename_i he
      rw [he] at hcv
      have e := rd_bool hcv
      exact val (s := pure (ρ a)) (gives _ _ hk (by simp) (hf _)) (by simp [execOp, e, asBool])
    · rename_i he
      rw [he] at hcv
      have e := rd_bool hcv
      exact val (s := pure (ρ b)) (gives _ _ hk (by simp) (hf _)) (by simp [execOp, e, asBool])
    · exact hk.elim
  · -- alloc
    rename_i t
    unfold aAlloc at hk
    split at hk
    · rename_i hb
      simp only [Bool.and_eq_true] at hb
      have hz1 : (E.td t).zero.length = (E.td t).size := Nat.eq_of_beq_eq_true hb.1
      have hz2 : 0 < (E.td t).size := by simpa using hb.2
      obtain ⟨z, hzr, hza, hzl⟩ := run_zero_td (P := P) hT (t := t) (by omega) w
      obtain ⟨g', k1, k2, k3, k4⟩ := sim_new (w' := w.alloc (.cells z.cells t)) (c := z.cells) (ty := t) hT hs rfl rfl rfl rfl (by rw [hzl]; exact zeroL hza) hz1 hz2 rfl
      refine valw (s := Instr.alloc t true (.tuple #[])) ⟨_, _, _, g', _, hk, ?_, k2, k3, k1, k4⟩ (by simp [execOp])
      simp only [Instr.alloc, Sem.run_bind, hzr, Result.andThen, newVar, newRow, run_newObj_alloc, Sem.run_pure]
    · exact hk.elim
  · -- box
    rename_i t x
    unfold aBox at hk
    split at hk
    · rename_i hb
      simp only [Bool.and_eq_true] at hb
      have hz1 : (E.ev fr.tmps x).cells.length = (E.td t).size := Nat.eq_of_beq_eq_true hb.1
      have hz2 : 0 < (E.td t).size := by simpa using hb.2
      have hxc := (hf x).cells (by intro e; rw [e] at hz1; simp at hz1; omega)
      have hrun : (Instr.box t (ρ x)).run P w = .ok (.pointer (some ⟨w.heap.size, 0, none⟩)) (w.alloc (.cells (ρ x).cells t)) := by
        simp only [Instr.box, Sem.run_bind, newVar, newRow, run_newObj_alloc, Result.andThen, Sem.run_pure]
      split at hk
      · cases hfz : frzL (frz frzDepth) (E.ev fr.tmps x).cells fr.heap with
        | none => simp [hfz] at hk
        | some p =>
          obtain ⟨ivs, H1⟩ := p
          simp only [hfz] at hk
          obtain ⟨g1, o1, s1, st1, r1, l1⟩ := frzL_sound (frz_sound frzDepth) _ hs hxc hfz
          obtain ⟨s3, st3, e3⟩ := sim_imm (w' := w.alloc (.cells (ρ x).cells t)) (o := .cells (ρ x).cells t) s1 rfl rfl rfl rfl
          refine valw (s := Instr.box t (ρ x)) ⟨_, _, _, g1.more w.heap.size, H1, hk, hrun, st1.trans st3, (OwnLe.of_eq o1).trans e3, s3, ?_⟩ (by simp [execOp])
          refine Rd.ptr ivs w.heap.size 0 (fun i => ((ρ x).cells[i]?).getD undef) (fun _ => .inr rfl) (fun i hi => ?_) (fun i y hy => ?_)
          · have hl : i < (ρ x).cells.size := by have := r1.1; simp at this; omega
            rw [cell_of (heap_alloc_new w _), Nat.zero_add, Array.getElem?_eq_getElem hl]; rfl
          · obtain ⟨b, b1, b2⟩ := r1.2 i y hy
            have : (ρ x).cells[i]? = some b := by simpa using b1
            show Rd _ _ y (((ρ x).cells[i]?).getD undef)
            rw [this]; exact Rd.step s1 st3 b2
      · obtain ⟨g', k1, k2, k3, k4⟩ := sim_new (w' := w.alloc (.cells (ρ x).cells t)) (c := (ρ x).cells) (ty := t) hT hs rfl rfl rfl rfl hxc hz1 hz2 rfl
        exact valw (s := Instr.box t (ρ x)) ⟨_, _, _, g', _, hk, hrun, k2, k3, k1, k4⟩ (by simp [execOp])
    · exact hk.elim
  · rename_i t parts
    refine val (s := Instr.build t (parts.map fun (i, x) => (i, ρ x))) ?_ (by simp [execOp])
    have := aBuild_sound (P := P) hT (partsR hf parts) hk
    rwa [Array.toArray_toList] at this
  · rename_i t n parts
    refine valw (s := Instr.buildSlice t n (parts.map fun (i, x) => (i, ρ x))) ?_ (by simp [execOp])
    split at hk
    · have := aBuildSlice_sound (P := P) hT hs (partsR hf parts) (aBuildSliceD_to hk)
      rwa [Array.toArray_toList] at this
    · have := aBuildSlice_sound (P := P) hT hs (partsR hf parts) hk
      rwa [Array.toArray_toList] at this
  · rename_i t x
    have hk : aLoad E t (E.ev fr.tmps x) fr.heap fun v => K v fr.heap := by
      split at hk
      · exact aLoad_nil hk
      · split at hk
        · unfold aLoadK at hk
          split at hk
          · rename_i he
            rw [he]
            split at hk
            · exact hk
            · exact hk.elim
          · exact hk.elim
        · exact hk
    obtain ⟨av, u, a, h1, h2, h3, h4⟩ := aLoad_sound (P := P) hT hs (hf x) hk
    exact val (s := Instr.loadAt t (ρ x)) (gives _ _ h1 (by simp [Instr.loadAt, h2, Instr.sureAddr, h3, Result.andThen]) h4) (by simp [execOp])
  · rename_i t x v
    obtain ⟨H', a, w', h1, h2, h3, h4, h5⟩ := aStore_sound (P := P) hT hs (hf x) (hf v) hk
    exact ⟨_, H', h1, undef, w', g, .inr ⟨by simp [execOp, Instr.storeAt, h2, Instr.sureAddr, h3, Result.andThen], rfl⟩, h5, .refl g, h4, rfl⟩
  · -- nilCheck
    rename_i x
    have hxv := hf x
    unfold aNil at hk
    split at hk
    · rename_i l he
      rw [he] at hxv
      have hxv' : Rd w g.imm (.ptr l) (ρ x) := hxv
      refine val (s := pure (ρ x)) (gives _ _ hk (by simp) hxv') ?_
      cases hq : ρ x <;> rw [hq] at hxv' <;> cases hxv'
      simp [execOp, hq]
    · rename_i i q he
      rw [he] at hxv
      have hxv' : A1R w g (.ref i q) (ρ x) := hxv
      refine val (s := pure (ρ x)) (gives _ _ hk (by simp) hxv') ?_
      obtain ⟨r, _, hq⟩ := hxv'
      simp [execOp, hq]
    · rename_i i j s he
      rw [he] at hxv
      have hxv' : A1R w g (.el i j s) (ρ x) := hxv
      refine val (s := pure (ρ x)) (gives _ _ hk (by simp) hxv') ?_
      obtain ⟨r, _, _, _, hq⟩ := hxv'
      simp [execOp, hq]
    · exact hk.elim
  · rename_i op t x y yt
    exact val (s := do eqGuard op t x y (ρ x) (ρ y); binOp op t (ρ x) (ρ y)) (aBin_sound hT hE (hf x) (hf y) hk) (by simp [execOp])
  · rename_i op t x
    exact val (s := Op.unary op (ρ x)) (aUn_sound (hf x) hk) (by simp [execOp])
  · rename_i s d x
    exact valw (s := convert s d (ρ x)) (aConvert_sound hT hs (hf x) hk) (by simp [execOp])
  · rename_i t l c
    exact valw (s := Instr.makeSlice t (ρ l) (ρ c)) (aMakeSlice_sound hT hs (hf l) (hf c) hk) (by simp [execOp])
  · rename_i t x lo hi mx
    have hk : aSlice E t (E.ev fr.tmps x) (oapp (E.ev fr.tmps) lo) (oapp (E.ev fr.tmps) hi) (oapp (E.ev fr.tmps) mx) fr.heap fun v => K v fr.heap := by
      split at hk
      · exact aSlice_nil hk
      · exact hk
    exact val (s := Instr.sliceAt t (ρ x) (lo.map ρ) (hi.map ρ) (mx.map ρ)) (aSlice_sound hT hs (hf x) (optR hf lo) (optR hf hi) (optR hf mx) hk) (by simp [execOp])
  · -- fieldAddr
    rename_i s x f
    obtain ⟨gs, fd, hu, hg, hk⟩ := aField_sound (P := P) hT hk
    have hxv := hf x
    have run : ∀ b q, 0 < (E.td fd.type).size → ρ x = .pointer (some ⟨b, q, none⟩) → (Instr.fieldAt s (ρ x) f).run P w = .ok (.pointer (some ⟨b, q + fd.offset, none⟩)) w := by
      intro b q hpos hq
      simp only [Instr.fieldAt, Sem.run_bind, run_underlying hu, Result.andThen, hg, hq, Instr.sureAddr, Sem.run_pure, run_fieldPlace hT hpos]
    unfold addOff at hk
    split at hk
    · rename_i l hb he
      have hpos : 0 < (E.td fd.type).size := by simpa using hb
      rw [he] at hxv
      have hxv' : Rd w g.imm (.ptr l) (ρ x) := hxv
      generalize hq : ρ x = v at hxv'
      cases hxv' with
      | ptr _ b off c hI hc hr =>
        refine val (s := Instr.fieldAt s (ρ x) f) (gives _ _ hk (run b off hpos hq) (Rd.ptr _ b (off + fd.offset) (fun i => c (fd.offset + i)) (fun hne => hI (fun e => hne (by rw [e]; simp))) (fun i hi => ?_) (fun i y hy => ?_))) (by simp [execOp])
        · simp at hi; rw [Nat.add_assoc]; exact hc _ (by omega)
        · rw [List.getElem?_drop] at hy; exact hr _ _ hy
    · rename_i i p hb he
      have hpos : 0 < (E.td fd.type).size := by simpa using hb
      rw [he] at hxv
      obtain ⟨r, hr, hq⟩ := hxv
      exact val (s := Instr.fieldAt s (ρ x) f) (gives _ _ hk (run r.blk p hpos hq) ⟨r, hr, rfl⟩) (by simp [execOp])
    · rename_i i j p hb he
      have hpos : 0 < (E.td fd.type).size := by simpa using hb
      rw [he] at hxv
      obtain ⟨r, hr, h1, h2, hq⟩ := hxv
      exact val (s := Instr.fieldAt s (ρ x) f) (gives _ _ hk (run r.blk _ hpos hq) ⟨r, hr, h1, h2, by rw [Nat.add_assoc]⟩) (by simp [execOp])
    · exact hk.elim
  · rename_i s x f
    obtain ⟨gs, fd, hu, hg, hk⟩ := aField_sound (P := P) hT hk
    have hxv := hf x
    unfold fieldOf at hk
    split at hk
    · rename_i l hb he
      have hpos : 0 < (E.td fd.type).size := by simpa using hb
      rw [he] at hxv
      obtain ⟨cs, hq, hL⟩ := hxv
      obtain ⟨av, v, k1, k2, k3⟩ := gives_part (part_cells (P := P) hT hL hk hpos)
      refine val (s := Instr.field s (ρ x) f) (gives _ _ k1 ?_ k3) (by simp [execOp])
      simp only [Instr.field, Sem.run_bind, run_underlying hu, Result.andThen, hg, hq, asAgg, Sem.run_pure, k2]
    · exact hk.elim
  · rename_i t x i
    have hk : aIndexAddr E t (E.ev fr.tmps x) (E.ev fr.tmps i) fr.heap fun v => K v fr.heap := by
      split at hk
      · exact aIndexAddr_nil hk
      · exact hk
    exact val (s := Instr.indexAt t (ρ x) (ρ i)) (aIndexAddr_sound hT hs (hf x) (hf i) hk) (by simp [execOp])
  · rename_i t x i
    exact val (s := Instr.index t (ρ x) (ρ i)) (aIndex_sound hT (hf x) (hf i) hk) (by simp [execOp])
  · rename_i x i
    exact val (s := Instr.extract (ρ x) i) (aExtract_sound (hf x) hk) (by simp [execOp])
  · rename_i fn first cap
    unfold aMakeFunc at hk
    split at hk
    · rename_i f a b hfi hca
      obtain ⟨a1, a2⟩ := immsA_sound (argsR hf first) hfi
      obtain ⟨b1, b2⟩ := immsA_sound (argsR hf cap) hca
      refine val (s := Instr.makeFunc (.func f) (first.map ρ) (cap.map ρ)) (gives _ _ hk (by simp [Instr.makeFunc]) (Rd.fn f a b (first.map ρ) (cap.map ρ) (by simpa using a1) (by simpa using b1) (fun i x hx => ?_) (fun i x hx => ?_))) (by simp [execOp])
      · have := a2 i x hx
        simpa [List.getD, Array.getD_eq_getD_getElem?] using this
      · have := b2 i x hx
        simpa [List.getD, Array.getD_eq_getD_getElem?] using this
    · exact hk.elim
  · rename_i c
    split at hk
    · rename_i f he; exact absurd he (hc c _ rfl)
    · rename_i b he
      have hargs := argsR hf c.args
      have hx : ∀ {s : Sem Value} (hb : ∀ cs, builtin b c.argTypes type cs (c.args.map ρ) = (do pure (.value (← s)))), (execOp ρ ⟨dst, .call c, type, pos, after, guard⟩).run P w = (do pure (.value (← s)) : Sem Next).run P w := by
        intro s hb
        simp only [execOp, resolve, he, Sem.run_bind, Sem.run_pure, Result.andThen, invoke, hb]
      have two : ∀ {x y : AV}, c.args.toList.map (E.ev fr.tmps) = [x, y] → ∃ v q, c.args.map ρ = #[v, q] ∧ AVR w g x v ∧ AVR w g y q := by
        intro x y hl
        rw [hl] at hargs
        obtain ⟨v, m, hv, hxv, ht⟩ := hargs.uncons
        obtain ⟨q, m', rfl, hyv, ht'⟩ := ht.uncons
        have hm := ht'.nil_inv; subst hm
        exact ⟨v, q, by apply Array.ext'; rw [hv], hxv, hyv⟩
      have get0 : ∀ {t : Nat} {r : List Nat}, c.argTypes.toList = t :: r → c.argTypes[0]? = some t := fun h => by rw [← Array.getElem?_toList, h]; rfl
      unfold aBuiltin at hk
      split at hk
      · -- len
        rename_i x t r hl hts
        rw [hl] at hargs
        obtain ⟨v, m, hv, hxv, ht⟩ := hargs.uncons
        have hm := ht.nil_inv; subst hm
        have hav : c.args.map ρ = #[v] := by apply Array.ext'; rw [hv]
        exact val (s := Builtin.len_ c.argTypes type #[v]) (aLen_sound (P := P) hT (get0 hts) hxv hk) (hx (fun _ => by rw [hav]; rfl))
      · rename_i x y t u r hl hts
        obtain ⟨v, q, hav, h1, h2⟩ := two hl
        exact valw (s := Builtin.append_ c.argTypes type #[v, q]) (aAppend_sound (P := P) hT hs (get0 hts) (by rw [← Array.getElem?_toList, hts]; rfl) h1 h2 hk) (hx (fun _ => by rw [hav]; rfl))
      · rename_i x y t r hl hts
        obtain ⟨v, q, hav, h1, h2⟩ := two hl
        exact valw (s := Builtin.copy_ c.argTypes type #[v, q]) (aCopy_sound (P := P) hT hs (get0 hts) h1 h2 hk) (hx (fun _ => by rw [hav]; rfl))
      · rename_i k x k' y hl
        obtain ⟨v, q, hav, h1, h2⟩ := two hl
        have e1 := rd_int h1; have e2 := rd_int h2; subst e1 e2
        exact val (s := Builtin.min_ c.argTypes type #[.int k x, .int k' y]) (gives _ _ hk (by simp [Builtin.min_, Builtin.min2]) (.int _ _)) (hx (fun _ => by rw [hav]; rfl))
      · rename_i k x k' y hl
        obtain ⟨v, q, hav, h1, h2⟩ := two hl
        have e1 := rd_int h1; have e2 := rd_int h2; subst e1 e2
        exact val (s := Builtin.max_ c.argTypes type #[.int k x, .int k' y]) (gives _ _ hk (by simp [Builtin.max_, Builtin.max2]) (.int _ _)) (hx (fun _ => by rw [hav]; rfl))
      · exact hk.elim
    · first | (rename_i x he hne; exact absurd he (hc c x rfl)) | (rename_i x hne he; exact absurd he (hc c x rfl))
    · exact hk.elim
  · exact hk.elim

/-- the same, of what is wrapped -/
theorem aOp_sound (hT : TyOk P E) (hE : EqOk P E) {h : Hint} {S : Spec} {draw : Bool} {o : Oper} {w : World} {g : Gh} {fr : Fr} {ρ : Operand → Value} {K : AV → List Blk → Prop} (hs : Sim E w g fr.heap)
    (hf : ∀ x, AVR w g (E.ev fr.tmps x) (ρ x)) (hc : ∀ c x, o.op = .call c → c.callee ≠ .value x) (hk : aOp E h S draw o.dst o.op fr K) :
    ∃ av H', K av H' ∧ Yields E w g fr.heap ((execOp ρ o).run P w) av H' := by
  obtain ⟨av, H', h1, h2⟩ := aOpR_sound hT hE hs hf hc (show aOpR E h S draw o.dst o.op fr _ from hk)
  exact ⟨av, H', wrapK_to h1, h2⟩

end
end Go.Abs
