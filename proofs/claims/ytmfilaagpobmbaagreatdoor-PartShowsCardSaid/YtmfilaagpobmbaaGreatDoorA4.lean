/- A part of the proof of a seat of parts: AbsCall, AbsRun, AbsDet, AbsDet2. -/
import Derived.Test.YtmfilaagpobmbaaGreatDoorA3
set_option linter.all false
namespace Go.Abs
open Go
set_option linter.unusedSimpArgs false

theorem natK_eq (n : Nat) (k : Nat → Prop) : natK n k = k n := by unfold natK; split <;> rfl
theorem natsK_eq : ∀ (l : List Nat) (k : List Nat → Prop), natsK l k = k l
  | [], k => rfl
  | a :: t, k => by rw [natsK, natK_eq, natsK_eq t]
theorem a1K_eq (a : A1) (k : A1 → Prop) : a1K a k = k a := by cases a <;> simp only [a1K, natK_eq]
theorem a1sK_eq : ∀ (l : List A1) (k : List A1 → Prop), a1sK l k = k l
  | [], k => rfl
  | a :: t, k => by rw [a1sK, a1K_eq, a1sK_eq t]
theorem av0K_eq (a : AV) (k : AV → Prop) : av0K a k = k a := by cases a <;> simp only [av0K, a1K_eq, a1sK_eq]
theorem avsK_eq : ∀ (l : List AV) (k : List AV → Prop), avsK l k = k l
  | [], k => rfl
  | a :: t, k => by rw [avsK, av0K_eq, avsK_eq t]
theorem avK_eq (a : AV) (k : AV → Prop) : avK a k = k a := by cases a <;> simp only [avK, av0K_eq, avsK_eq]
theorem blkK_eq (a : Blk) (k : Blk → Prop) : blkK a k = k a := by
  cases a with
  | dead => rfl
  | cells l ty => cases ty <;> simp only [blkK, a1sK_eq, natK_eq]
  | vec n e g ty => cases ty <;> simp only [blkK, natK_eq] <;> cases g <;> rfl
theorem blksK_eq : ∀ (l : List Blk) (k : List Blk → Prop), blksK l k = k l
  | [], k => rfl
  | a :: t, k => by rw [blksK, blkK_eq, blksK_eq t]
theorem setK_eq : ∀ (l : List AV) (n : Nat) (v : AV) (k : List AV → Prop), setK l n v k = k (l.set n v)
  | [], _, _, _ => rfl
  | _ :: _, 0, _, _ => rfl
  | a :: t, n + 1, v, k => by rw [setK, setK_eq t]; rfl
theorem putK_eq (l : List AV) (d : Option Nat) (v : AV) (k : List AV → Prop) : putK l d v k = k (aput l d v) := by
  cases d with
  | none => rfl
  | some d => exact setK_eq l d v k
theorem frK_eq (fr : Fr) (k : Fr → Prop) : frK fr k = k fr := by unfold frK; rw [avsK_eq, blksK_eq]

theorem blt_f {a b : Nat} (h : ¬ a < b) : Nat.blt a b = false := by
  cases hq : Nat.blt a b with
  | false => rfl
  | true => exact absurd (by simpa using hq) h

theorem idx_get : ∀ {ids : List Nat} {x : Nat}, has ids x = true → ids[idx ids x]? = some x
  | [], x, h => by simp [has] at h
  | a :: t, x, h => by
    unfold has at h
    unfold idx
    cases hb : Nat.beq a x with
    | true => simp [Nat.eq_of_beq_eq_true hb]
    | false => simp only [hb] at h; simp [idx_get h]

theorem mem_has : ∀ {l : List Nat} {x : Nat}, x ∈ l → has l x = true
  | a :: t, x, h => by
    unfold has
    cases hb : Nat.beq a x with
    | true => rfl
    | false =>
      rcases List.mem_cons.1 h with h | h
      · subst h; simp at hb
      · exact mem_has h

theorem idx_of_get : ∀ {ids : List Nat} {j x : Nat}, distinct ids = true → ids[j]? = some x → idx ids x = j
  | a :: t, 0, x, hd, h => by simp at h; subst h; unfold idx; simp
  | a :: t, j + 1, x, hd, h => by
    simp only [distinct, Bool.and_eq_true, Bool.not_eq_true'] at hd
    simp at h
    have hm : x ∈ t := List.mem_of_getElem? h
    unfold idx
    cases hb : Nat.beq a x with
    | true => have := Nat.eq_of_beq_eq_true hb; subst this; rw [mem_has hm] at hd; simp at hd
    | false => simp only; rw [idx_of_get hd.2 h]

theorem writeBack_len : ∀ (ids : List Nat) (bs H : List Blk), (writeBack ids bs H).length = H.length
  | [], _, _ => rfl
  | _ :: _, [], _ => rfl
  | i :: is, b :: bs, H => by rw [writeBack, writeBack_len is bs]; simp

theorem writeBack_get : ∀ (ids : List Nat) (bs H : List Blk) (id : Nat), distinct ids = true → ids.length ≤ bs.length → (∀ i ∈ ids, i < H.length) →
    (writeBack ids bs H)[id]? = if has ids id then bs[idx ids id]? else H[id]?
  | [], bs, H, id, _, _, _ => by simp [writeBack, has]
  | i :: is, [], H, id, _, h, _ => by simp at h
  | i :: is, b :: bs, H, id, hd, hl, hi => by
    simp only [distinct, Bool.and_eq_true, Bool.not_eq_true'] at hd
    rw [writeBack, writeBack_get is bs _ id hd.2 (by simpa using hl) (fun j hj => by simpa using hi j (by simp [hj]))]
    have hlt := hi i (by simp)
    rw [show has (i :: is) id = (match Nat.beq i id with | true => true | false => has is id) from rfl, show idx (i :: is) id = (match Nat.beq i id with | true => 0 | false => idx is id + 1) from rfl]
    cases hb : Nat.beq i id with
    | true =>
      have := Nat.eq_of_beq_eq_true hb; subst this
      simp only [hd.1, Bool.false_eq_true, if_false, if_true, List.getElem?_cons_zero]
      simp [hlt]
    | false =>
      have hne : i ≠ id := fun e => by subst e; simp at hb
      simp only [List.getElem?_cons_succ]
      rw [List.getElem?_set, if_neg hne]

theorem Blk.live_ren (f : Nat → Nat) (B : Blk) : (B.ren f).live = B.live := by cases B <;> rfl

section
variable {P : Program} {E : Env}

/-- values by other numbers -/
theorem A1R.ren {w : World} {g g' : Gh} {f : Nat → Nat} {a : A1} {v : Value} (hi : g'.imm = g.imm) (ho : ∀ id ∈ a.ids, g'.own (f id) = g.own id) (h : A1R w g a v) : A1R w g' (a.ren f) v := by
  cases a with
  | imm iv => have h' : Rd w g.imm iv v := h; rw [← hi] at h'; exact h'
  | nils => exact h
  | ref id off => obtain ⟨r, h1, h2⟩ := h; exact ⟨r, by rw [ho id (by simp [A1.ids])]; exact h1, h2⟩
  | el id i s => obtain ⟨r, h1, h2⟩ := h; exact ⟨r, by rw [ho id (by simp [A1.ids])]; exact h1, h2⟩
  | sl id o l => obtain ⟨r, h1, h2⟩ := h; exact ⟨r, by rw [ho id (by simp [A1.ids])]; exact h1, h2⟩
  | junk => exact h
  | emp => exact h

theorem AVR0.ren {w : World} {g g' : Gh} {f : Nat → Nat} {a : AV} {v : Value} (hi : g'.imm = g.imm) (ho : ∀ id ∈ a.ids0, g'.own (f id) = g.own id) (h : AVR0 w g a v) : AVR0 w g' (a.ren0 f) v := by
  cases a with
  | one a => exact A1R.ren hi ho h
  | agg l =>
    obtain ⟨cs, h1, h2⟩ := h
    refine ⟨cs, h1, L2.map.2 (h2.mem fun a b hm hr => A1R.ren hi (fun id hid => ho id ?_) hr)⟩
    simp only [AV.ids0, List.mem_flatMap]; exact ⟨a, hm, hid⟩
  | iagg l => obtain ⟨cs, h1, h2⟩ := h; exact ⟨cs, h1, by rw [hi]; exact h2⟩
  | tup l => exact h
  | undef => exact h
  | hole => exact h

theorem AVR.ren {w : World} {g g' : Gh} {f : Nat → Nat} {a : AV} {v : Value} (hi : g'.imm = g.imm) (ho : ∀ id ∈ a.ids, g'.own (f id) = g.own id) (h : AVR w g a v) : AVR w g' (a.ren f) v := by
  cases a with
  | tup l =>
    obtain ⟨cs, h1, h2⟩ := h
    refine ⟨cs, h1, L2.map.2 (h2.mem fun a b hm hr => AVR0.ren hi (fun id hid => ho id ?_) hr)⟩
    simp only [AV.ids, List.mem_flatMap]; exact ⟨a, hm, hid⟩
  | one a => exact AVR0.ren (a := .one a) hi ho h
  | agg l => exact AVR0.ren (a := .agg l) hi ho h
  | iagg l => exact AVR0.ren (a := .iagg l) hi ho h
  | undef => exact h
  | hole => exact h

theorem A1.ren_id (a : A1) : a.ren id = a := by cases a <;> rfl
theorem AV.ren0_id (a : AV) : a.ren0 id = a := by
  cases a <;> simp [AV.ren0, A1.ren_id]
  rename_i l
  exact (List.map_congr_left fun a _ => A1.ren_id a).trans (List.map_id l)
theorem AV.ren_id (a : AV) : a.ren id = a := by
  cases a <;> simp only [AV.ren, AV.ren0_id]
  rename_i l
  exact congrArg AV.tup ((List.map_congr_left fun a _ => AV.ren0_id a).trans (List.map_id l))

def Blk.ids : Blk → List Nat
  | .cells l _ => l.flatMap A1.ids
  | _ => []

theorem BlkR.ren {w : World} {g g' : Gh} {f : Nat → Nat} {id id' : Nat} {B : Blk} (hi : g'.imm = g.imm) (hid : g'.own id' = g.own id) (ho : ∀ id ∈ B.ids, g'.own (f id) = g.own id) (h : BlkR w g id B) : BlkR w g' id' (B.ren f) := by
  cases B with
  | dead => trivial
  | cells l ot =>
    obtain ⟨b, c, ty, fz, h1, h2, h3, h4, h5⟩ := h
    refine ⟨b, c, ty, fz, by rw [hid, h1]; simp, h2, h3, L2.map.2 (h4.mem fun a v hm hr => A1R.ren hi (fun id hid => ho id ?_) hr), h5⟩
    simp only [Blk.ids, List.mem_flatMap]; exact ⟨a, hm, hid⟩
  | vec sz elems gr ot =>
    obtain ⟨h0, r, rs, h1, h2, h3, h4, h5⟩ := h
    exact ⟨h0, r, rs, by rw [hid, h1], h2, h3, h4, fun v hv => by rw [hi]; exact h5 v hv⟩

/-- what a call of a Go function gives: its contract -/
def Snd (P : Program) (E : Env) (f : Nat) (args : List AV) (H : List Blk) (Q : AV → List Blk → Prop) : Prop :=
  ∀ (w : World) (g : Gh) (vs : Array Value), Sim E w g H → L2 (AVR w g) args vs.toList →
    (∃ fn, P.funcs[f]? = some fn ∧ (fn.name == "runtime.NumGoroutine") = false ∧ fn.body.isNone = false) ∧
    Calls P f vs w fun e w' => ∃ v g' r H', e = .returned v ∧ Sim E w' g' H' ∧ Step w g H w' g' H' ∧ OwnLe g g' ∧ H.length ≤ H'.length ∧ AVR w' g' r v ∧ Q r H'

theorem Snd.mono {f : Nat} {args : List AV} {H : List Blk} {Q Q' : AV → List Blk → Prop} (h : Snd P E f args H Q) (hq : ∀ r H', Q r H' → Q' r H') : Snd P E f args H Q' := by
  intro w g vs hs ha
  obtain ⟨h1, h2⟩ := h w g vs hs ha
  exact ⟨h1, h2.mono fun e w' ⟨v, g', r, H', k1, k2, k3, k4, k5, k6, k7⟩ => ⟨v, g', r, H', k1, k2, k3, k4, k5, k6, hq _ _ k7⟩⟩

/-- a call, seen from the caller -/
def CallOk (P : Program) (E : Env) (w : World) (g : Gh) (H : List Blk) (f : Nat) (vs : Array Value) (K : AV → List Blk → Prop) : Prop :=
  (∃ fn, P.funcs[f]? = some fn ∧ (fn.name == "runtime.NumGoroutine") = false ∧ fn.body.isNone = false) ∧
  Calls P f vs w fun e w' => ∃ v g' r H', e = .returned v ∧ Sim E w' g' H' ∧ Step w g H w' g' H' ∧ OwnLe g g' ∧ AVR w' g' r v ∧ K r H'

theorem ids_of_inB {ids : List Nat} {a : A1} (h : a.inB ids = true) : ∀ id ∈ a.ids, has ids id = true := by
  simpa [A1.inB] using h

theorem aCall_sound {w : World} {g : Gh} {H : List Blk} (hs : Sim E w g H) {f : Nat} {args : List AV} {vs : Array Value} {K : AV → List Blk → Prop} (ha : L2 (AVR w g) args vs.toList) (h : aCall (Snd P E) f args H K) : CallOk P E w g H f vs K := by
  unfold aCall at h
  rw [natsK_eq] at h
  generalize reach 200 H (args.flatMap AV.ids) [] = ids at h
  split at h
  · rename_i hb
    rw [avsK_eq, blksK_eq] at h
    simp only [Bool.and_eq_true, List.all_eq_true] at hb
    obtain ⟨⟨⟨hb1, hb2⟩, hd⟩, hb4⟩ := hb
    have hlt : ∀ i ∈ ids, i < H.length := fun i hi => by simpa using hb4 i hi
    -- the ghost of the part that is handed over
    let gc : Gh := ⟨g.imm, fun j => match ids[j]? with | some id => g.own id | none => []⟩
    let n := H.length
    let m := ids.length
    have hgc : ∀ {j id : Nat}, ids[j]? = some id → gc.own j = g.own id := fun h => by simp only [gc, h]
    have hgci : ∀ {id : Nat}, has ids id = true → gc.own (idx ids id) = g.own id := fun h => hgc (idx_get h)
    have hHc : ∀ (j : Nat) (B : Blk), (ids.map fun i => (H.getD i .dead).ren (idx ids))[j]? = some B → ∃ id B0, ids[j]? = some id ∧ H[id]? = some B0 ∧ B = B0.ren (idx ids) ∧ B0.inB ids = true := by
      intro j B hj
      simp only [List.getElem?_map, Option.map_eq_some_iff] at hj
      obtain ⟨id, h1, rfl⟩ := hj
      have hm := List.mem_of_getElem? h1
      have hl := hlt id hm
      refine ⟨id, H[id], h1, List.getElem?_eq_getElem hl, ?_, ?_⟩
      · simp [List.getD, List.getElem?_eq_getElem hl]
      · have := (by simpa [closed] using hb2 : ∀ i ∈ ids, (H.getD i .dead).inB ids = true) id hm
        simpa [List.getD, List.getElem?_eq_getElem hl] using this
    have hownc : ∀ b, Owned gc (ids.map fun i => (H.getD i .dead).ren (idx ids)) b → ∃ id B0, has ids id = true ∧ H[id]? = some B0 ∧ B0.live = true ∧ ∃ r ∈ g.own id, r.blk = b := by
      rintro b ⟨j, B, q1, q2, r, q3, q4⟩
      obtain ⟨id, B0, p1, p2, rfl, _⟩ := hHc j B q1
      rw [hgc p1] at q3
      rw [Blk.live_ren] at q2
      exact ⟨id, B0, mem_has (List.mem_of_getElem? p1), p2, q2, r, q3, q4⟩
    have hownc' : ∀ b, Owned gc (ids.map fun i => (H.getD i .dead).ren (idx ids)) b → Owned g H b := fun b hb => by
      obtain ⟨id, B0, _, p2, p3, r, p4, p5⟩ := hownc b hb
      exact ⟨id, B0, p2, p3, r, p4, p5⟩
    have hsc : Sim E w gc (ids.map fun i => (H.getD i .dead).ren (idx ids)) := by
      refine ⟨?_, ?_, fun b hb => hs.imm b (hownc' b hb), hs.lt, fun j hj => ?_, hs.glob⟩
      · intro j B hj
        obtain ⟨id, B0, p1, p2, rfl, p4⟩ := hHc j B hj
        refine BlkR.ren (g := g) (g' := gc) rfl (hgc p1) (fun id' hid' => hgci ?_) (hs.blk id B0 p2)
        cases B0 with
        | cells l ot =>
          simp only [Blk.inB, List.all_eq_true] at p4
          simp only [Blk.ids, List.mem_flatMap] at hid'
          obtain ⟨a, ha1, ha2⟩ := hid'
          exact ids_of_inB (p4 a ha1) id' ha2
        | dead => simp [Blk.ids] at hid'
        | vec _ _ _ _ => simp [Blk.ids] at hid'
      · intro j B j' B' r r' a1 a2 a3 a4 a5 a6 a7
        obtain ⟨id, B0, p1, p2, rfl, _⟩ := hHc j B a1
        obtain ⟨id', B0', p1', p2', rfl, _⟩ := hHc j' B' a3
        rw [hgc p1] at a5; rw [hgc p1'] at a6
        rw [Blk.live_ren] at a2 a4
        obtain ⟨e1, e2⟩ := hs.dis id B0 id' B0' r r' p2 a2 p2' a4 a5 a6 a7
        subst e1
        exact ⟨by rw [← idx_of_get hd p1, ← idx_of_get hd p1'], e2⟩
      · have : ids[j]? = none := List.getElem?_eq_none (by simpa using hj)
        simp only [gc, this]
    have hac : L2 (AVR w gc) (args.map (AV.ren (idx ids))) vs.toList := L2.map.2 (ha.mem fun a v hm hr => AVR.ren (g := g) (g' := gc) rfl (fun id hid => hgci (by
      have := hb1 a hm
      simp only [AV.inB, List.all_eq_true] at this
      exact this id hid)) hr)
    obtain ⟨hfn, hcall⟩ := h w gc vs hsc hac
    refine ⟨hfn, hcall.mono ?_⟩
    rintro e w' ⟨v, g1, r, H1, rfl, s1, st1, ol1, hlen, hr, hK⟩
    have hm1 : m ≤ H1.length := by simpa [m] using hlen
    let back := backNo ids n
    let g2 : Gh := ⟨g1.imm, fun id => if has ids id then g1.own (idx ids id) else if id < n then g.own id else g1.own (id - n + m)⟩
    have hnl : ∀ id, has ids id = true → id < n := fun id h => hlt id (has_mem h)
    have hback : ∀ j, g2.own (back j) = g1.own j := by
      intro j
      by_cases hj : j < m
      · have hbl : Nat.blt j ids.length = true := by simpa [m] using hj
        have hid : ids[j]? = some (ids.getD j 0) := by simp [List.getD, List.getElem?_eq_getElem hj]
        have hh := mem_has (List.mem_of_getElem? hid)
        simp only [back, backNo, hbl, g2, hh, if_true]
        rw [idx_of_get hd hid]
      · have hbl : Nat.blt j ids.length = false := blt_f hj
        have hh : has ids (n + (j - ids.length)) = false := by
          cases hq : has ids (n + (j - ids.length)) with
          | false => rfl
          | true => have := hnl _ hq; omega
        simp only [back, backNo, hbl, g2, hh, Bool.false_eq_true, if_false]
        rw [if_neg (by omega)]
        congr 1
        simp only [m] at hj ⊢; omega
    have hH2 : ∀ (id : Nat) (B : Blk), (writeBack ids (H1.map (Blk.ren back)) H ++ (H1.drop ids.length).map (Blk.ren back))[id]? = some B →
        (has ids id = false ∧ id < n ∧ H[id]? = some B ∧ g2.own id = g.own id) ∨ (∃ j B1, H1[j]? = some B1 ∧ B = B1.ren back ∧ g2.own id = g1.own j ∧ id = back j) := by
      intro id B hid
      rw [List.getElem?_append, writeBack_len] at hid
      by_cases hn : id < H.length
      · rw [if_pos hn, writeBack_get ids _ H id hd (by simpa using hm1) hlt] at hid
        cases hh : has ids id with
        | true =>
          right
          rw [hh, if_pos rfl] at hid
          simp only [List.getElem?_map, Option.map_eq_some_iff] at hid
          obtain ⟨B1, q1, rfl⟩ := hid
          have hj : idx ids id < ids.length := (List.getElem?_eq_some_iff.1 (idx_get hh)).1
          refine ⟨idx ids id, B1, q1, rfl, by simp only [g2, hh, if_true], ?_⟩
          have hbl : Nat.blt (idx ids id) ids.length = true := by simpa using hj
          simp only [back, backNo, hbl]
          simp [List.getD, idx_get hh]
        | false =>
          left
          rw [hh] at hid
          simp only [Bool.false_eq_true, if_false] at hid
          exact ⟨rfl, hn, hid, by simp only [g2, hh, Bool.false_eq_true, if_false]; rw [if_pos hn]⟩
      · right
        rw [if_neg hn] at hid
        simp only [List.getElem?_map, List.getElem?_drop, Option.map_eq_some_iff] at hid
        obtain ⟨B1, q1, rfl⟩ := hid
        have hb : id = back (ids.length + (id - H.length)) := by
          have hbl : Nat.blt (ids.length + (id - H.length)) ids.length = false := blt_f (by omega)
          simp only [back, backNo, hbl, n]; omega
        refine ⟨_, B1, q1, rfl, ?_, hb⟩
        rw [hb]
        have := hback (ids.length + (id - H.length))
        rw [← hb] at this ⊢
        exact this
    have hle : OwnLe g g2 := by
      intro id r hr
      cases hh : has ids id with
      | true =>
        have hr' : r ∈ gc.own (idx ids id) := by rw [hgci hh]; exact hr
        obtain ⟨r', q1, q2⟩ := ol1 _ r hr'
        exact ⟨r', by simp only [g2, hh, if_true]; exact q1, q2⟩
      | false =>
        by_cases hn : id < n
        · exact ⟨r, by simp only [g2, hh, Bool.false_eq_true, if_false]; rw [if_pos hn]; exact hr, rfl, rfl, rfl, rfl, Nat.le_refl _⟩
        · rw [hs.nil id (by simpa [n] using hn)] at hr; simp at hr
    have hrd : ∀ iv v, Rd w g.imm iv v → Rd w' g2.imm iv v := fun iv v h => Rd.step hsc st1 h
    have hother : ∀ id B, H[id]? = some B → B.live = true → has ids id = false → ∀ r ∈ g.own id, ¬ Owned gc (ids.map fun i => (H.getD i .dead).ren (idx ids)) r.blk := by
      intro id B h1 h2 h3 r hr ho
      obtain ⟨id', B0, p1, p2, p3, r', p4, p5⟩ := hownc _ ho
      have := (hs.dis id B id' B0 r r' h1 h2 p2 p3 hr p4 p5.symm).1
      subst this; rw [h3] at p1; simp at p1
    have hown2 : ∀ b, Owned g2 (writeBack ids (H1.map (Blk.ren back)) H ++ (H1.drop ids.length).map (Blk.ren back)) b → Owned g1 H1 b ∨ ∃ id B, has ids id = false ∧ H[id]? = some B ∧ B.live = true ∧ ∃ r ∈ g.own id, r.blk = b := by
      rintro b ⟨id, B, q1, q2, r, q3, q4⟩
      rcases hH2 id B q1 with ⟨p1, p2, p3, p4⟩ | ⟨j, B1, p1, rfl, p3, p4⟩
      · rw [p4] at q3; exact .inr ⟨id, B, p1, p3, q2, r, q3, q4⟩
      · rw [p3] at q3; rw [Blk.live_ren] at q2; exact .inl ⟨j, B1, p1, q2, r, q3, q4⟩
    refine ⟨v, g2, r.ren back, _, rfl, ⟨?_, ?_, ?_, s1.lt, ?_, s1.glob⟩, ⟨st1.os, st1.tape, st1.output, st1.size, fun b hb hn => st1.frame b hb (fun h => hn (hownc' b h)), st1.immMono, fun b hb => ?_, fun b hb => ?_⟩, hle, AVR.ren (g := g1) (g' := g2) rfl (fun id _ => hback id) hr, hK⟩
    · intro id B hid
      rcases hH2 id B hid with ⟨p1, p2, p3, p4⟩ | ⟨j, B1, p1, rfl, p3, p4⟩
      · exact (hs.blk id B p3).keep hrd hle p4 (fun hl r hr => st1.frame _ (blk_lt (hs.blk id B p3) hl hr) (hother id B p3 hl p1 r hr))
      · exact BlkR.ren (g := g1) (g' := g2) rfl p3 (fun id' _ => hback id') (s1.blk j B1 p1)
    · intro id B id' B' q q' a1 a2 a3 a4 a5 a6 a7
      rcases hH2 id B a1 with ⟨p1, p2, p3, p4⟩ | ⟨j, B1, p1, rfl, p3, p4⟩ <;> rcases hH2 id' B' a3 with ⟨p1', p2', p3', p4'⟩ | ⟨j', B1', p1', rfl, p3', p4'⟩
      · rw [p4] at a5; rw [p4'] at a6; exact hs.dis id B id' B' q q' p3 a2 p3' a4 a5 a6 a7
      · exfalso
        rw [p4] at a5; rw [p3'] at a6; rw [Blk.live_ren] at a4
        rcases st1.ownSub q'.blk ⟨j', B1', p1', a4, q', a6, rfl⟩ with h | h
        · exact hother id B p3 a2 p1 q a5 (by rw [a7]; exact h)
        · have := blk_lt (hs.blk id B p3) a2 a5; omega
      · exfalso
        rw [p3] at a5; rw [p4'] at a6; rw [Blk.live_ren] at a2
        rcases st1.ownSub q.blk ⟨j, B1, p1, a2, q, a5, rfl⟩ with h | h
        · exact hother id' B' p3' a4 p1' q' a6 (by rw [← a7]; exact h)
        · have := blk_lt (hs.blk id' B' p3') a4 a6; omega
      · rw [p3] at a5; rw [p3'] at a6; rw [Blk.live_ren] at a2 a4
        obtain ⟨e1, e2⟩ := s1.dis j B1 j' B1' q q' p1 a2 p1' a4 a5 a6 a7
        exact ⟨by rw [p4, p4', e1], e2⟩
    · intro b hb hi
      rcases hown2 b hb with h | ⟨id, B, h1, h2, h3, q, h4, h5⟩
      · exact s1.imm b h hi
      · have hbl := blk_lt (hs.blk id B h2) h3 h4
        rcases st1.immSub b hi with h | h | h
        · exact hs.imm b ⟨id, B, h2, h3, q, h4, h5⟩ h
        · exact hother id B h2 h3 h1 q h4 (by rw [h5]; exact h)
        · omega
    · intro id hid
      rw [List.length_append, writeBack_len, List.length_map, List.length_drop] at hid
      have hh : has ids id = false := by
        cases hq : has ids id with
        | false => rfl
        | true => have := hnl _ hq; omega
      simp only [g2, hh, Bool.false_eq_true, if_false]
      rw [if_neg (by omega)]
      exact s1.nil _ (by simp only [m]; omega)
    · rcases st1.immSub b hb with h | h | h
      · exact .inl h
      · exact .inr (.inl (hownc' b h))
      · exact .inr (.inr h)
    · rcases hown2 b hb with h | ⟨id, B, h1, h2, h3, q, h4, h5⟩
      · exact (st1.ownSub b h).imp (hownc' b) id
      · exact .inl ⟨id, B, h2, h3, q, h4, h5⟩
  · exact h.elim

end
end Go.Abs

namespace Go.Abs
open Go
set_option linter.unusedSimpArgs false

section
variable {P : Program} {E : Env}

/-- the machine's state is told by the abstract one -/
structure St (E : Env) (w0 : World) (g0 : Gh) (H0 : List Blk) (fr : Fr) (a : Act) (w : World) (g : Gh) : Prop where
  sim : Sim E w g fr.heap
  slots : FrR w g fr.tmps a
  step : Step w0 g0 H0 w g fr.heap
  defers : a.defers = []
  own : OwnLe g0 g

theorem St.next {w0 : World} {g0 : Gh} {H0 : List Blk} {fr : Fr} {a : Act} {w : World} {g : Gh} (h : St E w0 g0 H0 fr a w g) {dst : Option Nat} {av : AV} {v : Value} {w' : World} {g' : Gh} {H' : List Blk}
    (s : Sim E w' g' H') (st : Step w g fr.heap w' g' H') (ol : OwnLe g g') (hv : AVR w' g' av v) : St E w0 g0 H0 ⟨aput fr.tmps dst av, H'⟩ (a.put dst v) w' g' := by
  have hk := FrR.keep (fun iv v h' => Rd.step h.sim st h') ol h.slots
  refine ⟨s, ?_, h.step.trans st, ?_, h.own.trans ol⟩
  · cases dst with
    | none => exact hk
    | some d => exact hk.put hv d
  · cases dst <;> simp [Act.put, h.defers]

theorem aNext_eq (dst : Option Nat) (fr : Fr) (K : Fr → Prop) (v : AV) (hp : List Blk) : aNext dst fr K v hp = K ⟨aput fr.tmps dst v, hp⟩ := by
  unfold aNext; rw [avK_eq, putK_eq, blksK_eq]

theorem exec_call {ρ : Operand → Value} {o : Oper} {c : Call} {f : Nat} {w : World} (ho : o.op = .call c) (hc : c.callee = .value (.func f)) (hρ : ρ (.func f) = .func (.func f) #[] #[])
    {fn : Func} (h1 : P.funcs[f]? = some fn) (h2 : (fn.name == "runtime.NumGoroutine") = false) (h3 : fn.body.isNone = false) : (execOp ρ o).run P w = .ok (.enter f (c.args.map ρ)) w := by
  obtain ⟨dst, op, type, pos, after, guard⟩ := o
  simp only at ho
  subst ho
  simp only [execOp, resolve, hc, Sem.run_bind, Sem.run_pure, Result.andThen, hρ, Deferred.ofValue, invoke, callFunc, run_program, h1]
  simp [h2, h3]

theorem exec_callV {ρ : Operand → Value} {o : Oper} {c : Call} {x : Operand} {f : Nat} {A B : Array Value} {w : World} (ho : o.op = .call c) (hc : c.callee = .value x) (hρ : ρ x = .func (.func f) A B)
    {fn : Func} (h1 : P.funcs[f]? = some fn) (h2 : (fn.name == "runtime.NumGoroutine") = false) (h3 : fn.body.isNone = false) : (execOp ρ o).run P w = .ok (.enter f (A ++ c.args.map ρ ++ B)) w := by
  obtain ⟨dst, op, type, pos, after, guard⟩ := o
  simp only at ho
  subst ho
  simp only [execOp, resolve, hc, Sem.run_bind, Sem.run_pure, Result.andThen, hρ, Deferred.ofValue, invoke, callFunc, run_program, h1]
  simp [h2, h3]

/-- one operation, in the text's order -/
theorem aOp_wp (hT : TyOk P E) (hE : EqOk P E) {hh : Hint} {o : Oper} {w0 : World} {g0 : Gh} {H0 : List Blk} {fr : Fr} {a : Act} {w : World} {g : Gh} (hs : St E w0 g0 H0 fr a w g) {K : Fr → Prop} {next : Act → World → Prop} {Q : Exit → Act → World → Prop}
    (hk : aOp E hh (Snd P E) false o.dst o.op fr (aNext o.dst fr K)) (hn : ∀ fr' a' w' g', St E w0 g0 H0 fr' a' w' g' → K fr' → next a' w') : o.wp P a w next Q := by
  have hf : ∀ x, AVR w g (E.ev fr.tmps x) (a.eval x) := fun x => hs.slots.ev hs.sim x
  by_cases hc : ∃ c f, o.op = .call c ∧ c.callee = .value (.func f)
  · obtain ⟨c, f, ho, hcal⟩ := hc
    rw [ho] at hk
    have hk : aOpR E hh (Snd P E) false o.dst (.call c) fr (aNext o.dst fr K) := hk
    simp only [aOpR, hcal] at hk
    obtain ⟨⟨fn, h1, h2, h3⟩, hcall⟩ := aCall_sound hs.sim (argsR hf c.args) hk
    unfold Oper.wp
    rw [exec_call ho hcal rfl h1 h2 h3]
    simp only [Oper.upon]
    refine hcall.mono ?_
    rintro e w' ⟨v, g', r, H', rfl, s', st', ol', hr, hK⟩
    rw [aNext_eq] at hK
    exact hn _ _ _ _ (hs.next s' st' ol' hr) hK
  · by_cases hcv : ∃ c x, o.op = .call c ∧ c.callee = .value x
    · obtain ⟨c, x, ho, hcal⟩ := hcv
      have hnf : ∀ f, x ≠ .func f := fun f e => hc ⟨c, f, ho, by rw [hcal, e]⟩
      rw [ho] at hk
      have hk : aOpR E hh (Snd P E) false o.dst (.call c) fr (aNext o.dst fr K) := hk
      have hk : aCallV (Snd P E) (E.ev fr.tmps x) (c.args.toList.map (E.ev fr.tmps)) fr.heap (aNext o.dst fr K) := by
        cases x with
        | func f => exact absurd rfl (hnf f)
        | tmp t => simpa only [aOpR, hcal] using hk
        | const v => simpa only [aOpR, hcal] using hk
        | global g => simpa only [aOpR, hcal] using hk
      have hxv := hf x
      unfold aCallV at hk
      split at hk
      · rename_i f as bs he
        rw [he] at hxv
        have hxv' : Rd w g.imm (.fn f as bs) (a.eval x) := hxv
        generalize hq : a.eval x = q at hxv'
        cases hxv' with
        | fn _ _ _ A B hA hB ha hb =>
          have hargs : L2 (AVR w g) (as.map AV.i ++ c.args.toList.map (E.ev fr.tmps) ++ bs.map AV.i) (A ++ c.args.map a.eval ++ B).toList := by
            rw [Array.toList_append, Array.toList_append]
            refine L2.append (L2.append (L2.map.2 ⟨by simpa using hA.symm, fun i y hy => ?_⟩) (argsR hf c.args)) (L2.map.2 ⟨by simpa using hB.symm, fun i y hy => ?_⟩)
            · have hi : i < A.size := by rw [hA]; exact (List.getElem?_eq_some_iff.1 hy).1
              have := ha i y hy
              rw [Array.getD_eq_getD_getElem?, Array.getElem?_eq_getElem hi] at this
              exact ⟨A[i], by simp [hi], this⟩
            · have hi : i < B.size := by rw [hB]; exact (List.getElem?_eq_some_iff.1 hy).1
              have := hb i y hy
              rw [Array.getD_eq_getD_getElem?, Array.getElem?_eq_getElem hi] at this
              exact ⟨B[i], by simp [hi], this⟩
          obtain ⟨⟨fn, h1, h2, h3⟩, hcall⟩ := aCall_sound hs.sim hargs hk
          unfold Oper.wp
          rw [exec_callV ho hcal hq h1 h2 h3]
          simp only [Oper.upon]
          refine hcall.mono ?_
          rintro e w' ⟨v, g', r, H', rfl, s', st', ol', hr, hK⟩
          rw [aNext_eq] at hK
          exact hn _ _ _ _ (hs.next s' st' ol' hr) hK
      · exact hk.elim
    obtain ⟨av, H', hK, v, w', g', hrun, st', ol', s', hv⟩ := aOp_sound (P := P) hT hE hs.sim hf (fun c x ho hcal => hcv ⟨c, x, ho, hcal⟩) hk
    rw [aNext_eq] at hK
    unfold Oper.wp
    rcases hrun with hrun | ⟨hrun, rfl⟩
    · rw [hrun]; exact hn _ _ _ _ (hs.next s' st' ol' hv) hK
    · rw [hrun]; exact hn _ _ _ _ (hs.next s' st' ol' hv) hK

theorem wanted_of {ops : Array Oper} {o : Oper} {j : Nat} {want b : Bool} {fr : Fr} {a : Act} {w : World} {g : Gh} (hfr : FrR w g fr.tmps a) (hg : o.guard = some (j, want)) (hv : guardAv ops.toList fr.tmps j = .one (.imm (.bool b))) :
    Region.wanted o (yielded ops a.tmps) = (b == want) := by
  unfold guardAv at hv
  split at hv
  · rename_i oj hj
    split at hv
    · rename_i d hd
      have h2 := hfr.2 d
      have : fr.tmps.getD d .undef = .one (.imm (.bool b)) := hv
      rw [this] at h2
      have e := rd_bool h2
      have hjo : ops[j]? = some oj := by simpa using hj
      have ht : a.tmps[d]? = some (.bool b) := by
        simp only [Array.getD_eq_getD_getElem?] at e
        cases hq : a.tmps[d]? with
        | none => rw [hq] at e; simp [undef] at e
        | some v => rw [hq] at e; simp at e; rw [e]
      simp only [Region.wanted, hg, yielded, hjo, Option.bind_some, hd, ht]
      cases b <;> cases want <;> rfl
    · simp at hv
  · simp at hv

theorem wanted_hole {ops : Array Oper} {o : Oper} {j : Nat} {want : Bool} {fr : Fr} {a : Act} {w : World} {g : Gh} (hfr : FrR w g fr.tmps a) (hg : o.guard = some (j, want)) (hv : guardAv ops.toList fr.tmps j = .hole) :
    Region.wanted o (yielded ops a.tmps) = false := by
  unfold guardAv at hv
  split at hv
  · rename_i oj hj
    split at hv
    · rename_i d hd
      have h2 := hfr.2 d
      have : fr.tmps.getD d .undef = .hole := hv
      rw [this] at h2
      have e : a.tmps.getD d undef = undef := h2
      have hjo : ops[j]? = some oj := by simpa using hj
      have hy : yielded ops a.tmps j = none := by
        simp only [yielded, hjo, Option.bind_some, hd]
        simp only [Array.getD_eq_getD_getElem?] at e
        cases hq : a.tmps[d]? with
        | none => rfl
        | some v => rw [hq] at e; simp at e; subst e; rfl
      simp only [Region.wanted, hg, hy]
      rfl
    · simp at hv
  · simp at hv

/-- a region in the text's order -/
theorem aOps_wp (hT : TyOk P E) (hE : EqOk P E) {hh : Hint} {ops : Array Oper} {w0 : World} {g0 : Gh} {H0 : List Blk} {K : Fr → Prop} {Q : Exit → Act → World → Prop} (hn : ∀ fr' a' w' g', St E w0 g0 H0 fr' a' w' g' → K fr' → Q .normal a' w') :
    ∀ (l : List Oper) (fr : Fr) (a : Act) (w : World) (g : Gh), St E w0 g0 H0 fr a w g → aOps E hh (Snd P E) false ops.toList l fr K → wpList P ops Q l a w
  | [], fr, a, w, g, hs, h => hn fr a w g hs h
  | o :: l, fr, a, w, g, hs, h => by
    rw [aOps_cons] at h
    unfold wpList
    have skip : ∀ K' : Fr → Prop, aNext o.dst fr K' .hole fr.heap → ∃ fr', St E w0 g0 H0 fr' (a.put o.dst undef) w g ∧ K' fr' := by
      intro K' hk
      rw [aNext_eq] at hk
      exact ⟨_, hs.next (av := .hole) (v := undef) hs.sim (.refl _ _ _) (.refl _) (show undef = undef from rfl), hk⟩
    split at h
    · rename_i hg
      have hw : Region.wanted o (yielded ops a.tmps) = true := by simp [Region.wanted, hg]
      rw [if_pos hw]
      exact .inl (aOp_wp hT hE hs h (fun fr' a' w' g' hs' hk => aOps_wp hT hE hn l fr' a' w' g' hs' hk))
    · rename_i j want hg
      split at h
      · rename_i b hb
        have hw := wanted_of (ops := ops) hs.slots hg hb
        rw [hw]
        split at h
        · rename_i hbw
          have : (b == want) = true := by revert hbw; cases b <;> cases want <;> simp [beqB]
          rw [this, if_pos rfl]
          exact .inl (aOp_wp hT hE hs h (fun fr' a' w' g' hs' hk => aOps_wp hT hE hn l fr' a' w' g' hs' hk))
        · rename_i hbw
          have : (b == want) = false := by revert hbw; cases b <;> cases want <;> simp [beqB]
          rw [this]
          obtain ⟨fr', hs', hk'⟩ := skip _ h
          simpa using aOps_wp hT hE hn l fr' _ w g hs' hk'
      · rename_i hb
        have hw := wanted_hole (ops := ops) hs.slots hg hb
        rw [hw]
        obtain ⟨fr', hs', hk'⟩ := skip _ h
        simpa using aOps_wp hT hE hn l fr' _ w g hs' hk'
      · exact h.elim

end
end Go.Abs

namespace Go.Abs
open Go
set_option linter.unusedSimpArgs false

def Det1 (f : (AV → Prop) → Prop) : Prop := ∀ K, f K → ∃ av, K av ∧ ∀ K2 : AV → Prop, K2 av → f K2
def Det2 (f : (AV → List Blk → Prop) → Prop) : Prop := ∀ K, f K → ∃ av H, K av H ∧ ∀ K2 : AV → List Blk → Prop, K2 av H → f K2

theorem Det1.two {f : (AV → Prop) → Prop} (h : Det1 f) (H : List Blk) : Det2 fun K => f fun v => K v H := by
  intro K hk
  obtain ⟨av, h1, h2⟩ := h _ hk
  exact ⟨av, H, h1, fun K2 h3 => h2 _ h3⟩

section
variable {E : Env}

theorem det_binInt (op : BinOp) (k : IntKind) (a b : Int) : Det1 (binInt op k a b) := by
  intro K h
  cases op <;> simp only [binInt] at h ⊢ <;> first | exact ⟨_, h, fun _ h2 => h2⟩ | exact ⟨_, h.2, fun _ h2 => ⟨h.1, h2⟩⟩

theorem det_binStr (op : BinOp) (a b : ByteArray) : Det1 (binStr op a b) := by
  intro K h
  cases op <;> simp only [binStr] at h ⊢ <;> first | exact ⟨_, h, fun _ h2 => h2⟩ | exact ⟨_, h.2, fun _ h2 => ⟨h.1, h2⟩⟩ | exact h.elim

theorem det_isNilEq (op : BinOp) (r : Bool) : Det1 (isNilEq op r) := by
  intro K h
  cases op <;> simp only [isNilEq] at h ⊢ <;> first | exact ⟨_, h, fun _ h2 => h2⟩ | exact h.elim

theorem det_aBin (op : BinOp) (t : Nat) (x y : AV) : Det1 (aBin E op t x y) := by
  intro K h
  unfold aBin at h
  split at h
  · split at h
    · rename_i hk
      obtain ⟨av, h1, h2⟩ := det_binInt _ _ _ _ K h
      exact ⟨av, h1, fun K2 h3 => by simp only [aBin, hk]; exact h2 K2 h3⟩
    · exact h.elim
  · obtain ⟨av, h1, h2⟩ := det_binStr _ _ _ K h
    exact ⟨av, h1, fun K2 h3 => h2 K2 h3⟩
  all_goals first
    | (split at h
       · rename_i hk
         obtain ⟨av, h1, h2⟩ := det_isNilEq _ _ K h
         exact ⟨av, h1, fun K2 h3 => by simp only [aBin, hk]; exact h2 K2 h3⟩
       · exact h.elim)
    | skip
  · split at h
    · rename_i a b ha hb
      split at h
      · rename_i fs hk
        split at h
        · rename_i r hh hf
          obtain ⟨av, h1, h2⟩ := det_isNilEq _ _ K h
          exact ⟨av, h1, fun K2 h3 => by simp only [aBin, ha, hb, hk, hh, hf]; exact h2 K2 h3⟩
        · exact h.elim
      · exact h.elim
    · exact h.elim
  · exact h.elim

theorem det_aUn (op : UnOp) (x : AV) : Det1 (aUn op x) := by
  intro K h
  unfold aUn at h
  split at h
  · exact ⟨_, h, fun _ h2 => h2⟩
  · exact ⟨_, h, fun _ h2 => h2⟩
  · exact ⟨_, h, fun _ h2 => h2⟩
  · exact h.elim

theorem det_ldCells (td : TD) (cs : List A1) : Det1 (ldCells td cs) := by
  intro K h
  unfold ldCells at h
  cases ha : td.agg with
  | true =>
    simp only [ha] at h
    split at h
    · rename_i hb
      exact ⟨_, h, fun K2 h2 => by simp only [ldCells, ha, hb]; exact h2⟩
    · exact h.elim
  | false =>
    simp only [ha] at h
    split at h
    · rename_i hb
      exact ⟨_, h, fun K2 h2 => by simp only [ldCells, ha, hb]; exact h2⟩
    · exact h.elim

theorem det_aExtract (x : AV) (i : Nat) : Det1 (aExtract x i) := by
  intro K h
  unfold aExtract at h
  split at h
  · split at h
    · rename_i hv
      exact ⟨_, h, fun K2 h2 => by simp only [aExtract, hv]; exact h2⟩
    · exact h.elim
  · exact h.elim

theorem det_aLen (t : Nat) (x : AV) : Det1 (aLen E t x) := by
  intro K h
  unfold aLen at h
  split at h
  all_goals first | exact h.elim | (rename_i hk; exact ⟨_, h, fun K2 h2 => by simp only [aLen, hk]; exact h2⟩)

theorem det_aIndex (t : Nat) (x y : AV) : Det1 (aIndex E t x y) := by
  intro K h
  unfold aIndex at h
  split at h
  · rename_i hk
    split at h
    · exact ⟨_, h.2.2, fun K2 h2 => by simp only [aIndex, hk]; exact ⟨h.1, h.2.1, h2⟩⟩
    · exact h.elim
  · rename_i hk
    split at h
    · rename_i hz
      split at h
      · obtain ⟨cs, h0, h1, h2, h3⟩ := h
        obtain ⟨av, q1, q2⟩ := det_ldCells _ _ K h3
        exact ⟨av, q1, fun K2 h4 => by simp only [aIndex, hk, hz]; exact ⟨cs, h0, h1, h2, q2 K2 h4⟩⟩
      · obtain ⟨cs, h0, h1, h2, h3⟩ := h
        obtain ⟨av, q1, q2⟩ := det_ldCells _ _ K h3
        exact ⟨av, q1, fun K2 h4 => by simp only [aIndex, hk, hz]; exact ⟨cs, h0, h1, h2, q2 K2 h4⟩⟩
      · exact h.elim
    · exact h.elim
  · exact h.elim

theorem det_aBuild (t : Nat) (parts : List (Nat × AV)) : Det1 (aBuild E t parts) := by
  intro K h
  unfold aBuild at h
  split at h
  · rename_i hk
    split at h
    · rename_i hb
      split at h
      · rename_i hc
        exact ⟨_, h, fun K2 h2 => by simp only [aBuild, hk, hb, hc]; exact h2⟩
      · exact h.elim
    · exact h.elim
  · rename_i hk
    split at h
    · rename_i hb
      split at h
      · rename_i hc
        exact ⟨_, h, fun K2 h2 => by simp only [aBuild, hk, hb, hc]; exact h2⟩
      · exact h.elim
    · exact h.elim
  · exact h.elim

theorem det_aLoad (t : Nat) (x : AV) (H : List Blk) : Det1 (aLoad E t x H) := by
  intro K h
  unfold aLoad at h
  split at h
  · obtain ⟨av, q1, q2⟩ := det_ldCells _ _ K h
    exact ⟨av, q1, fun K2 h4 => q2 K2 h4⟩
  · split at h
    · rename_i hl
      obtain ⟨av, q1, q2⟩ := det_ldCells _ _ K h
      exact ⟨av, q1, fun K2 h4 => by simp only [aLoad, hl]; exact q2 K2 h4⟩
    · rename_i hl
      split at h
      · rename_i hk
        split at h
        · rename_i hb
          exact ⟨_, h.2, fun K2 h4 => by simp only [aLoad, hl, hk, hb]; exact ⟨h.1, h4⟩⟩
        · exact h.elim
      · exact h.elim
    · exact h.elim
  · split at h
    · rename_i hl
      obtain ⟨cells, h1, h2⟩ := h
      obtain ⟨av, q1, q2⟩ := det_ldCells _ _ K h2
      exact ⟨av, q1, fun K2 h4 => by simp only [aLoad, hl]; exact ⟨cells, h1, q2 K2 h4⟩⟩
    · exact h.elim
  · exact h.elim

theorem det_aIndexAddr (t : Nat) (x y : AV) (H : List Blk) : Det1 (aIndexAddr E t x y H) := by
  intro K h
  unfold aIndexAddr at h
  split at h
  · rename_i hk
    split at h
    · rename_i hz
      split at h
      · obtain ⟨cells, h1, h2, h3, h4⟩ := h
        exact ⟨_, h4, fun K2 h5 => by simp only [aIndexAddr, hk, hz]; exact ⟨cells, h1, h2, h3, h5⟩⟩
      · split at h
        · rename_i hl
          split at h
          · rename_i hb
            exact ⟨_, h.2.2, fun K2 h5 => by simp only [aIndexAddr, hk, hz, hl, hb]; exact ⟨h.1, h.2.1, h5⟩⟩
          · exact h.elim
        · exact h.elim
      · exact h.elim
    · exact h.elim
  · rename_i hk
    split at h
    · rename_i hz
      split at h
      · split at h
        · rename_i hl
          split at h
          · rename_i hb
            exact ⟨_, h.2.2.2, fun K2 h5 => by simp only [aIndexAddr, hk, hz, hl, hb]; exact ⟨h.1, h.2.1, h.2.2.1, h5⟩⟩
          · exact h.elim
        · exact h.elim
      · obtain ⟨cs, h1, h2, h3, h4, h5⟩ := h
        exact ⟨_, h5, fun K2 h6 => by simp only [aIndexAddr, hk, hz]; exact ⟨cs, h1, h2, h3, h4, h6⟩⟩
      · exact h.elim
    · exact h.elim
  · exact h.elim

end
end Go.Abs

namespace Go.Abs
open Go
set_option linter.unusedSimpArgs false

section
variable {E : Env}

theorem det_boundOf {o : Option AV} {d : Int} {F : Int → (AV → Prop) → Prop} (hF : ∀ i, Det1 (F i)) : Det1 fun K => boundOf o d fun i => F i K := by
  intro K h
  unfold boundOf at h ⊢
  split at h
  · exact hF _ K h
  · exact hF _ K h
  · exact h.elim

theorem det_and {p : Prop} {f : (AV → Prop) → Prop} (h : Det1 f) : Det1 fun K => p ∧ f K := by
  intro K hk
  obtain ⟨av, h1, h2⟩ := h K hk.2
  exact ⟨av, h1, fun K2 h3 => ⟨hk.1, h2 K2 h3⟩⟩
theorem det_const (v : AV) : Det1 fun K => K v := fun _ h => ⟨v, h, fun _ h2 => h2⟩

theorem det_bounds (lo hi : Option AV) (d n : Int) (v : Int → Int → AV) : Det1 fun K => boundOf lo 0 fun l => boundOf hi d fun r => 0 ≤ l ∧ l ≤ r ∧ r ≤ n ∧ K (v l r) :=
  det_boundOf fun _ => det_boundOf fun _ => det_and (det_and (det_and (det_const _)))

theorem det_aSlice (t : Nat) (x : AV) (lo hi mx : Option AV) (H : List Blk) : Det1 (aSlice E t x lo hi mx H) := by
  intro K h
  unfold aSlice at h
  split at h
  · split at h
    · rename_i hk
      split at h
      · rename_i hz
        obtain ⟨av, q1, q2⟩ := (det_boundOf (o := lo) (d := 0) (F := fun l K => boundOf hi 1 fun h => boundOf (some _) 1 fun m => l = 0 ∧ h = 0 ∧ m = 0 ∧ K (.one .emp)) fun _ => det_boundOf fun _ => det_boundOf fun _ => det_and (det_and (det_and (det_const _)))) K h
        exact ⟨av, q1, fun K2 h3 => by simp only [aSlice, hk, hz]; exact q2 K2 h3⟩
      · exact h.elim
    · exact h.elim
  · split at h
    · split at h
      · rename_i hk
        obtain ⟨av, q1, q2⟩ := det_bounds lo hi _ _ _ K h
        exact ⟨av, q1, fun K2 h3 => by simp only [aSlice, hk]; exact q2 K2 h3⟩
      · exact h.elim
    · split at h
      · rename_i hk
        split at h
        · rename_i hz
          obtain ⟨av, q1, q2⟩ := det_bounds lo hi _ _ _ K h.2
          exact ⟨av, q1, fun K2 h3 => by simp only [aSlice, hk, hz]; exact ⟨h.1, q2 K2 h3⟩⟩
        · exact h.elim
      · exact h.elim
    · split at h
      · rename_i hk hl
        split at h
        · rename_i hz
          obtain ⟨av, q1, q2⟩ := det_bounds lo hi _ _ _ K h
          exact ⟨av, q1, fun K2 h3 => by simp only [aSlice, hk, hl, hz]; exact q2 K2 h3⟩
        · exact h.elim
      · exact h.elim
    · exact h.elim

theorem det_elemsOf {n : Nat} {H : List Blk} {x : AV} {F : List (List IV) → (AV → List Blk → Prop) → Prop} (hF : ∀ l, Det2 (F l)) : Det2 fun K => elemsOf n H x fun l => F l K := by
  intro K h
  unfold elemsOf at h
  split at h
  · exact hF _ K h
  · exact hF _ K h
  · obtain ⟨av, H', h1, h2⟩ := hF _ K h.2
    exact ⟨av, H', h1, fun K2 h3 => ⟨h.1, h2 K2 h3⟩⟩
  · split at h
    · rename_i hb
      obtain ⟨av, H', h1, h2⟩ := hF _ K h
      exact ⟨av, H', h1, fun K2 h3 => by simp only [elemsOf, hb]; exact h2 K2 h3⟩
    · exact h.elim
  · split at h
    · rename_i hl
      split at h
      · rename_i hb
        obtain ⟨av, H', h1, h2⟩ := hF _ K h
        exact ⟨av, H', h1, fun K2 h3 => by simp only [elemsOf, hl, hb]; exact h2 K2 h3⟩
      · exact h.elim
    · exact h.elim
  · exact h.elim

theorem det_elems1 {n : Nat} {H : List Blk} {x : AV} {F : List (List IV) → (AV → Prop) → Prop} (hF : ∀ l, Det1 (F l)) : Det1 fun K => elemsOf n H x fun l => F l K := by
  intro K h
  unfold elemsOf at h
  split at h
  · exact hF _ K h
  · exact hF _ K h
  · obtain ⟨av, h1, h2⟩ := hF _ K h.2
    exact ⟨av, h1, fun K2 h3 => ⟨h.1, h2 K2 h3⟩⟩
  · split at h
    · rename_i hb
      obtain ⟨av, h1, h2⟩ := hF _ K h
      exact ⟨av, h1, fun K2 h3 => by simp only [elemsOf, hb]; exact h2 K2 h3⟩
    · exact h.elim
  · split at h
    · rename_i hl
      split at h
      · rename_i hb
        obtain ⟨av, h1, h2⟩ := hF _ K h
        exact ⟨av, h1, fun K2 h3 => by simp only [elemsOf, hl, hb]; exact h2 K2 h3⟩
      · exact h.elim
    · exact h.elim
  · exact h.elim

theorem det_bytesStr (x : AV) (H : List Blk) : Det1 (bytesStr x H) := by
  have key : Det1 fun K => elemsOf 1 H x fun l => ∃ s : ByteArray, l = bytesIV s ∧ K (.i (.str s)) := det_elems1 fun l K hk => by
    obtain ⟨s, h1, h2⟩ := hk
    exact ⟨_, h2, fun K2 h3 => ⟨s, h1, h3⟩⟩
  intro K h
  unfold bytesStr at h
  split at h
  · exact h.elim
  · rename_i x hns
    obtain ⟨av, h1, h2⟩ := key K h
    refine ⟨av, h1, fun K2 h3 => ?_⟩
    unfold bytesStr
    split
    · rename_i s; exact absurd rfl (hns s)
    · exact h2 K2 h3

theorem det_aConvert (s d : Nat) (x : AV) (H : List Blk) : Det2 (aConvert E s d x H) := by
  intro K h
  unfold aConvert at h
  split at h
  · rename_i hk hk'
    exact ⟨_, _, h, fun K2 h2 => by simp only [aConvert, hk, hk']; exact h2⟩
  · rename_i hk hk'
    exact ⟨_, _, h, fun K2 h2 => by simp only [aConvert, hk, hk']; exact h2⟩
  · rename_i hk hk'
    split at h
    · rename_i hu
      exact ⟨_, _, h, fun K2 h2 => by simp only [aConvert, hk, hk', hu]; exact h2⟩
    · exact h.elim
  · rename_i hk hk'
    split at h
    · rename_i hu
      obtain ⟨av, h1, h2⟩ := det_bytesStr _ _ _ h
      exact ⟨av, H, h1, fun K2 h3 => by simp only [aConvert, hk, hk', hu]; exact h2 _ h3⟩
    · exact h.elim
  · exact h.elim

theorem det_aMakeSlice (t : Nat) (x y : AV) (H : List Blk) : Det2 (aMakeSlice E t x y H) := by
  intro K h
  unfold aMakeSlice at h
  split at h
  · rename_i hk
    split at h
    · rename_i hz hb
      obtain ⟨h0, h1, h2, h3⟩ := h
      exact ⟨_, _, h3, fun K2 h4 => by simp only [aMakeSlice, hk, hz, hb]; exact ⟨h0, h1, h2, h4⟩⟩
    · exact h.elim
  · exact h.elim

theorem det_appTo (e : Nat) (s : AV) (H : List Blk) (xs : List (List IV)) : Det2 (appTo E e s H xs) := by
  intro K hk
  unfold appTo at hk
  split at hk
  · split at hk
    · exact ⟨_, _, hk, fun K2 h2 => h2⟩
    · exact ⟨_, _, hk.2, fun K2 h2 => ⟨hk.1, h2⟩⟩
  · split at hk
    · exact ⟨_, _, hk, fun K2 h2 => h2⟩
    · exact ⟨_, _, hk.2, fun K2 h2 => ⟨hk.1, h2⟩⟩
  · split at hk
    · rename_i hl
      split at hk
      · rename_i hb
        exact ⟨_, _, hk.2.2, fun K2 h2 => by simp only [appTo, hl, hb]; exact ⟨hk.1, hk.2.1, h2⟩⟩
      · exact hk.elim
    · exact hk.elim
  · exact hk.elim

theorem det_aAppend (t u : Nat) (s x : AV) (H : List Blk) : Det2 (aAppend E t u s x H) := by
  intro K h
  unfold aAppend at h
  split at h
  · rename_i e hk hu
    split at h
    · rename_i hb
      obtain ⟨av, H', h1, h2⟩ := det_elemsOf (fun xs => det_appTo (E := E) e s H xs) K h
      exact ⟨av, H', h1, fun K2 h3 => by simp only [aAppend, hk, hu, hb]; exact h2 K2 h3⟩
    · exact h.elim
  · exact h.elim

theorem det_copyTo (e : Nat) (d : AV) (H : List Blk) (xs : List (List IV)) : Det2 (copyTo E e d H xs) := by
  intro K hk
  unfold copyTo at hk
  split at hk
  · split at hk
    · rename_i hl
      split at hk
      · rename_i hb
        exact ⟨_, _, hk, fun K2 h2 => by simp only [copyTo, hl, hb]; exact h2⟩
      · exact hk.elim
    · exact hk.elim
  · exact hk.elim

theorem det_aCopy (t : Nat) (d x : AV) (H : List Blk) : Det2 (aCopy E t d x H) := by
  intro K h
  unfold aCopy at h
  split at h
  · rename_i e hk
    obtain ⟨av, H', h1, h2⟩ := det_elemsOf (fun xs => det_copyTo (E := E) e d H xs) K h
    exact ⟨av, H', h1, fun K2 h3 => by simp only [aCopy, hk]; exact h2 K2 h3⟩
  · exact h.elim

theorem det_aAlloc (kp : Bool) (t : Nat) (H : List Blk) : Det2 (aAlloc E kp t H) := by
  intro K h
  unfold aAlloc at h
  split at h
  · rename_i hb; exact ⟨_, _, h, fun K2 h2 => by simp only [aAlloc, hb]; exact h2⟩
  · exact h.elim

theorem det_aBox (fz kp : Bool) (t : Nat) (x : AV) (H : List Blk) : Det2 (aBox E fz kp t x H) := by
  intro K h
  unfold aBox at h
  split at h
  · rename_i hb
    split at h
    · split at h
      · rename_i hf; exact ⟨_, _, h, fun K2 h2 => by simp only [aBox, hb, hf]; exact h2⟩
      · exact h.elim
    · exact ⟨_, _, h, fun K2 h2 => by simp only [aBox, hb]; exact h2⟩
  · exact h.elim

theorem det_aPick (c a b : AV) : Det1 (aPick c a b) := by
  intro K h
  unfold aPick at h
  split at h
  · exact ⟨_, h, fun _ h2 => h2⟩
  · exact ⟨_, h, fun _ h2 => h2⟩
  · exact h.elim

theorem det_aNil (x : AV) : Det1 (aNil x) := by
  intro K h
  unfold aNil at h
  split at h
  · exact ⟨_, h, fun _ h2 => h2⟩
  · exact ⟨_, h, fun _ h2 => h2⟩
  · exact ⟨_, h, fun _ h2 => h2⟩
  · exact h.elim

theorem det_addOff (td : TD) (x : AV) (o : Nat) : Det1 (addOff td x o) := by
  intro K h
  unfold addOff at h
  split at h
  · rename_i hb; exact ⟨_, h, fun _ h2 => by simp only [addOff, hb]; exact h2⟩
  · rename_i hb; exact ⟨_, h, fun _ h2 => by simp only [addOff, hb]; exact h2⟩
  · rename_i hb; exact ⟨_, h, fun _ h2 => by simp only [addOff, hb]; exact h2⟩
  · exact h.elim

theorem det_fieldOf (td : TD) (x : AV) (o : Nat) : Det1 (fieldOf td x o) := by
  intro K h
  unfold fieldOf at h
  split at h
  · rename_i hb
    obtain ⟨av, q1, q2⟩ := det_ldCells _ _ K h
    exact ⟨av, q1, fun K2 h2 => by simp only [fieldOf, hb]; exact q2 K2 h2⟩
  · exact h.elim

theorem det_aField (s f : Nat) {F : Nat → TD → (AV → Prop) → Prop} (hF : ∀ o td, Det1 (F o td)) : Det1 fun K => aField E s f fun o td => F o td K := by
  intro K h
  unfold aField at h
  split at h
  · rename_i hk
    split at h
    · rename_i hf
      obtain ⟨av, q1, q2⟩ := hF _ _ K h
      exact ⟨av, q1, fun K2 h2 => by simp only [aField, hk, hf]; exact q2 K2 h2⟩
    · exact h.elim
  · exact h.elim

theorem det_aBuildSlice (fz : Bool) (t n : Nat) (parts : List (Nat × AV)) (H : List Blk) : Det2 (aBuildSlice E fz t n parts H) := by
  intro K h
  unfold aBuildSlice at h
  split at h
  · rename_i hk
    split at h
    · rename_i hb hc
      split at h
      · rename_i hf
        cases fz with
        | true => exact ⟨_, _, h, fun K2 h2 => by simp only [aBuildSlice, hk, hb, hc, hf]; exact h2⟩
        | false => exact ⟨_, _, h, fun K2 h2 => by simp only [aBuildSlice, hk, hb, hc, hf]; exact h2⟩
      · exact h.elim
    · exact h.elim
  · exact h.elim

theorem det_aBuildSliceD (t n : Nat) (parts : List (Nat × AV)) : Det1 (aBuildSliceD E t n parts) := by
  intro K h
  unfold aBuildSliceD at h
  split at h
  · rename_i hk
    split at h
    · rename_i hb hc
      split at h
      · rename_i hf
        exact ⟨_, h, fun K2 h2 => by simp only [aBuildSliceD, hk, hb, hc, hf]; exact h2⟩
      · exact h.elim
    · exact h.elim
  · exact h.elim

theorem det_aStore (t : Nat) (x v : AV) (H : List Blk) : ∀ K, aStore E t x v H K → ∃ H', K H' ∧ ∀ K2 : List Blk → Prop, K2 H' → aStore E t x v H K2 := by
  intro K h
  unfold aStore at h
  split at h
  · split at h
    · rename_i hl
      split at h
      · rename_i h1 h2 h3
        exact ⟨_, h, fun K2 h4 => by simp only [aStore, hl, h1, h2, h3]; exact h4⟩
      · exact h.elim
    · rename_i hl
      split at h
      · rename_i hv
        split at h
        · rename_i h0
          obtain ⟨h1, h2, h3, h4⟩ := h
          exact ⟨_, h4, fun K2 h5 => by simp only [aStore, hl, hv, h0]; exact ⟨h1, h2, h3, h5⟩⟩
        · exact h.elim
      · exact h.elim
    · exact h.elim
  · split at h
    · rename_i hl
      split at h
      · rename_i hv
        split at h
        · rename_i hb
          obtain ⟨h0, cells, h1, h2, h3⟩ := h
          exact ⟨_, h3, fun K2 h4 => by simp only [aStore, hl, hv, hb]; exact ⟨h0, cells, h1, h2, h4⟩⟩
        · exact h.elim
      · exact h.elim
    · exact h.elim
  · exact h.elim

def Kept (h : Hint) (a b : List Blk) : Prop := ∀ i, has h.hk i = true → a.getD i .dead = b.getD i .dead
theorem Kept.symm {h : Hint} {a b : List Blk} (k : Kept h a b) : Kept h b a := fun i hi => (k i hi).symm
theorem Kept.refl (h : Hint) (a : List Blk) : Kept h a a := fun _ _ => rfl

theorem cls_cases (E : Env) (h : Hint) (dst : Option Nat) (op : Op) : (cls E h dst op = 3 ∧ cls0 E h dst op = 2) ∨ cls E h dst op = cls0 E h dst op := by
  unfold cls
  cases hb : (Nat.beq (cls0 E h dst op) 2 && wrapped h dst op) with
  | true =>
    simp only [Bool.and_eq_true] at hb
    exact .inl ⟨rfl, Nat.eq_of_beq_eq_true hb.1⟩
  | false => exact .inr rfl
theorem cls0_ne (E : Env) (h : Hint) (dst : Option Nat) (op : Op) : cls0 E h dst op ≠ 3 := by
  unfold cls0
  repeat' split
  all_goals simp

theorem conv_keeps {hh : Hint} {dst : Option Nat} {s d : Nat} {y : Operand} {x v : AV} {H H' : List Blk} (hc : cls0 E hh dst (.convert s d y) ≠ 2) (h : aConvert E s d x H (fun v' H'' => v' = v ∧ H'' = H')) : H' = H := by
  unfold aConvert at h
  unfold cls0 at hc
  split at h
  · exact h.2.symm
  · exact h.2.symm
  · rename_i hk hk'; simp [hk, hk'] at hc
  · split at h
    · obtain ⟨av, h1, _⟩ := det_bytesStr _ _ _ h
      exact h1.2.symm
    · exact h.elim
  · exact h.elim

theorem conv_any {hh : Hint} {dst : Option Nat} {s d : Nat} {y : Operand} {x v : AV} {H H' : List Blk} (hc : cls0 E hh dst (.convert s d y) = 0) (h : aConvert E s d x H (fun v' H'' => v' = v ∧ H'' = H')) : ∀ heap2 K2, K2 v heap2 → aConvert E s d x heap2 K2 := by
  intro heap2 K2 h3
  unfold aConvert at h
  unfold cls0 at hc
  split at h
  · rename_i hk hk'; simp only [aConvert, hk, hk']; rw [← h.1] at h3; exact h3
  · rename_i hk hk'; simp only [aConvert, hk, hk']; rw [← h.1] at h3; exact h3
  · rename_i hk hk'; simp [hk, hk'] at hc
  · rename_i hk hk'; simp [hk, hk'] at hc
  · exact h.elim

/-- an operation in a region that draws its order: what comes of it is fixed -/
theorem det_aOpR {h : Hint} {S : Spec} {dst : Option Nat} {op : Op} {tmps : List AV} {heap : List Blk} {K : AV → List Blk → Prop} (hk : aOpR E h S true dst op ⟨tmps, heap⟩ K) :
    ∃ av H', K av H' ∧ (cls0 E h dst op ≠ 2 → H' = heap) ∧ (∀ K2, K2 av H' → aOpR E h S true dst op ⟨tmps, heap⟩ K2) ∧ (cls0 E h dst op = 0 → ∀ heap2 K2, K2 av heap2 → aOpR E h S true dst op ⟨tmps, heap2⟩ K2) ∧
      (cls0 E h dst op = 4 → ∀ heap2 K2, Kept h heap2 heap → K2 av heap2 → aOpR E h S true dst op ⟨tmps, heap2⟩ K2) := by
  have one : ∀ {f : (AV → Prop) → Prop}, Det1 f → f (fun v => K v heap) → (∀ heap2 K2, (f fun v => K2 v heap2) → aOpR E h S true dst op ⟨tmps, heap2⟩ K2) →
      ∃ av H', K av H' ∧ (cls0 E h dst op ≠ 2 → H' = heap) ∧ (∀ K2, K2 av H' → aOpR E h S true dst op ⟨tmps, heap⟩ K2) ∧ (cls0 E h dst op = 0 → ∀ heap2 K2, K2 av heap2 → aOpR E h S true dst op ⟨tmps, heap2⟩ K2) ∧
      (cls0 E h dst op = 4 → ∀ heap2 K2, Kept h heap2 heap → K2 av heap2 → aOpR E h S true dst op ⟨tmps, heap2⟩ K2) := by
    intro f hf hk hb
    obtain ⟨av, h1, h2⟩ := hf _ hk
    exact ⟨av, heap, h1, fun _ => rfl, fun K2 h3 => hb heap K2 (h2 _ h3), fun _ heap2 K2 h3 => hb heap2 K2 (h2 _ h3), fun _ heap2 K2 _ h3 => hb heap2 K2 (h2 _ h3)⟩
  have two : ∀ {f : (AV → List Blk → Prop) → Prop}, Det2 f → f K → cls0 E h dst op = 2 → (∀ K2, f K2 → aOpR E h S true dst op ⟨tmps, heap⟩ K2) →
      ∃ av H', K av H' ∧ (cls0 E h dst op ≠ 2 → H' = heap) ∧ (∀ K2, K2 av H' → aOpR E h S true dst op ⟨tmps, heap⟩ K2) ∧ (cls0 E h dst op = 0 → ∀ heap2 K2, K2 av heap2 → aOpR E h S true dst op ⟨tmps, heap2⟩ K2) ∧
      (cls0 E h dst op = 4 → ∀ heap2 K2, Kept h heap2 heap → K2 av heap2 → aOpR E h S true dst op ⟨tmps, heap2⟩ K2) := by
    intro f hf hk hc hb
    obtain ⟨av, H', h1, h2⟩ := hf _ hk
    exact ⟨av, H', h1, fun h => absurd hc h, fun K2 h3 => hb K2 (h2 _ h3), fun h => by rw [hc] at h; simp at h, fun h => by rw [hc] at h; simp at h⟩
  have rd : ∀ {f : (AV → Prop) → Prop}, Det1 f → f (fun v => K v heap) → cls0 E h dst op = 1 → (∀ K2, (f fun v => K2 v heap) → aOpR E h S true dst op ⟨tmps, heap⟩ K2) →
      ∃ av H', K av H' ∧ (cls0 E h dst op ≠ 2 → H' = heap) ∧ (∀ K2, K2 av H' → aOpR E h S true dst op ⟨tmps, heap⟩ K2) ∧ (cls0 E h dst op = 0 → ∀ heap2 K2, K2 av heap2 → aOpR E h S true dst op ⟨tmps, heap2⟩ K2) ∧
      (cls0 E h dst op = 4 → ∀ heap2 K2, Kept h heap2 heap → K2 av heap2 → aOpR E h S true dst op ⟨tmps, heap2⟩ K2) := by
    intro f hf hk hc hb
    obtain ⟨av, h1, h2⟩ := hf _ hk
    exact ⟨av, heap, h1, fun _ => rfl, fun K2 h3 => hb K2 (h2 _ h3), fun h => by rw [hc] at h; simp at h, fun h => by rw [hc] at h; simp at h⟩
  cases op <;> simp only [aOpR] at hk
  case move x => exact one (det_const _) hk (fun _ _ h => h)
  case assign x => exact one (det_const _) hk (fun _ _ h => h)
  case pick c a b => exact one (det_aPick _ _ _) hk (fun _ _ h => h)
  case alloc t => exact two (det_aAlloc _ _ _) hk rfl (fun _ h => h)
  case box t x => exact two (det_aBox _ _ _ _ _) hk rfl (fun _ h => h)
  case build t parts => exact one (det_aBuild _ _) hk (fun _ _ h => h)
  case buildSlice t n parts =>
    cases hbs : dst.any (has h.hc) with
    | true =>
      simp only [hbs, Bool.true_and, Bool.not_true] at hk
      exact two (f := fun K => aBuildSlice E (dst.any (has h.frz)) t n (parts.toList.map fun p => (p.1, E.ev tmps p.2)) heap K) (det_aBuildSlice _ _ _ _ _) hk (by simp [cls0, hbs]) (fun _ h => by simp only [aOpR, Bool.true_and, hbs, Bool.not_true]; exact h)
    | false =>
      simp only [hbs, Bool.true_and, Bool.not_false] at hk
      exact one (f := fun K => aBuildSliceD E t n (parts.toList.map fun p => (p.1, E.ev tmps p.2)) K) (det_aBuildSliceD _ _ _) hk (fun _ _ h => by simp only [aOpR, Bool.true_and, hbs, Bool.not_false]; exact h)
  case load t x =>
    simp only [Bool.true_and] at hk
    cases hpl : dst.any (has h.pl) with
    | true =>
      rw [hpl] at hk
      exact one (f := fun K => aLoad E t (E.ev tmps x) [] K) (det_aLoad _ _ _) hk (fun _ _ h => by simp only [aOpR, Bool.true_and, hpl]; exact h)
    | false =>
      rw [hpl] at hk
      cases hkl : dst.any (has h.kl) with
      | false =>
        rw [hkl] at hk
        exact rd (f := fun K => aLoad E t (E.ev tmps x) heap K) (det_aLoad _ _ _) hk (by simp [cls0, hpl, hkl]) (fun _ h => by simp only [aOpR, Bool.true_and, hpl, hkl]; exact h)
      | true =>
        rw [hkl] at hk
        have hc4 : cls0 E h dst (.load t x) = 4 := by simp [cls0, hpl, hkl]
        unfold aLoadK at hk
        simp only at hk
        split at hk
        · rename_i id off he
          split at hk
          · rename_i hid
            obtain ⟨av, h1, h2⟩ := det_aLoad _ _ _ _ hk
            refine ⟨av, heap, h1, fun _ => rfl, fun K2 h3 => ?_, fun h => by rw [hc4] at h; simp at h, fun _ heap2 K2 hkp h3 => ?_⟩
            · simp only [aOpR, Bool.true_and, hpl, hkl, aLoadK, he, hid]; exact h2 _ h3
            · simp only [aOpR, Bool.true_and, hpl, hkl, aLoadK, he, hid]
              have h5 : aLoad E t (.one (.ref id off)) heap (fun v => K2 v heap2) := h2 _ h3
              unfold aLoad at h5 ⊢
              simp only [hkp id hid]
              exact h5
          · exact hk.elim
        · exact hk.elim
  case store t x v =>
    refine two (f := fun K => aStore E t (E.ev tmps x) (E.ev tmps v) heap fun hp => K .hole hp) ?_ hk rfl (fun _ h => h)
    intro K h
    obtain ⟨H', h1, h2⟩ := det_aStore _ _ _ _ _ h
    exact ⟨_, H', h1, fun K2 h3 => h2 _ h3⟩
  case nilCheck x => exact one (det_aNil _) hk (fun _ _ h => h)
  case binOp o t x y yt => exact one (det_aBin _ _ _ _) hk (fun _ _ h => h)
  case unOp o t x => exact one (det_aUn _ _) hk (fun _ _ h => h)
  case convert s d x =>
    obtain ⟨av, H', h1, h2⟩ := det_aConvert s d (E.ev tmps x) heap K hk
    have key : aConvert E s d (E.ev tmps x) heap (fun v H => v = av ∧ H = H') := h2 _ ⟨rfl, rfl⟩
    have n4 : cls0 E h dst (.convert s d x) ≠ 4 := by unfold cls0; simp only; split <;> simp
    exact ⟨av, H', h1, fun hc => conv_keeps (hh := h) (dst := dst) (y := x) hc key, h2, fun hc => conv_any (hh := h) (dst := dst) (y := x) hc key, fun h => absurd h n4⟩
  case makeSlice t l c => exact two (det_aMakeSlice _ _ _ _) hk rfl (fun _ h => h)
  case slice t x lo hi mx =>
    simp only [Bool.true_and] at hk
    cases hpl : dst.any (has h.pl) with
    | true =>
      rw [hpl] at hk
      exact one (f := fun K => aSlice E t (E.ev tmps x) (oapp (E.ev tmps) lo) (oapp (E.ev tmps) hi) (oapp (E.ev tmps) mx) [] K) (det_aSlice _ _ _ _ _ _) hk (fun _ _ h => by simp only [aOpR, Bool.true_and, hpl]; exact h)
    | false =>
      rw [hpl] at hk
      exact rd (f := fun K => aSlice E t (E.ev tmps x) (oapp (E.ev tmps) lo) (oapp (E.ev tmps) hi) (oapp (E.ev tmps) mx) heap K) (det_aSlice _ _ _ _ _ _) hk (by simp [cls0, hpl]) (fun _ h => by simp only [aOpR, Bool.true_and, hpl]; exact h)
  case fieldAddr s x f => exact one (det_aField s f fun o td => det_addOff td (E.ev tmps x) o) hk (fun _ _ h => h)
  case field s x f => exact one (det_aField s f fun o td => det_fieldOf td (E.ev tmps x) o) hk (fun _ _ h => h)
  case indexAddr t x i =>
    simp only [Bool.true_and] at hk
    cases hpl : dst.any (has h.pl) with
    | true =>
      rw [hpl] at hk
      exact one (f := fun K => aIndexAddr E t (E.ev tmps x) (E.ev tmps i) [] K) (det_aIndexAddr _ _ _ _) hk (fun _ _ h => by simp only [aOpR, Bool.true_and, hpl]; exact h)
    | false =>
      rw [hpl] at hk
      exact rd (f := fun K => aIndexAddr E t (E.ev tmps x) (E.ev tmps i) heap K) (det_aIndexAddr _ _ _ _) hk (by simp [cls0, hpl]) (fun _ h => by simp only [aOpR, Bool.true_and, hpl]; exact h)
  case index t x i => exact one (det_aIndex _ _ _) hk (fun _ _ h => h)
  case extract x i => exact one (det_aExtract _ _) hk (fun _ _ h => h)
  case makeFunc fn first cap =>
    refine one (f := fun K => aMakeFunc fn (first.toList.map (E.ev tmps)) (cap.toList.map (E.ev tmps)) K) ?_ hk (fun _ _ h => h)
    intro K h
    unfold aMakeFunc at h
    split at h
    · rename_i hfi hca
      exact ⟨_, h, fun K2 h2 => by simp only [aMakeFunc, hfi, hca]; exact h2⟩
    · exact h.elim
  case call c =>
    split at hk
    · rename_i f hc
      cases hhc : dst.any (has h.hc) with
      | true =>
        rw [hhc] at hk
        obtain ⟨R, Hr, h1, h2⟩ := hk
        refine ⟨R, Hr, h2, fun h => absurd (by simp [cls0, hc, hhc]) h, fun K2 h3 => ?_, fun h => by simp [cls0, hc, hhc] at h, fun h => by simp [cls0, hc, hhc] at h⟩
        simp only [aOpR, hc, hhc]
        exact ⟨R, Hr, h1, h3⟩
      | false =>
      rw [hhc] at hk
      simp only [aCallD] at hk
      split at hk
      · rename_i hb
        rw [avsK_eq] at hk
        obtain ⟨R, h1, h2, h3⟩ := hk
        refine ⟨R, heap, h3, fun _ => rfl, fun K2 h4 => ?_, fun _ heap2 K2 h4 => ?_, fun h => by simp [cls0, hc, hhc] at h⟩
        · simp only [aOpR, hc, hhc, aCallD, hb, avsK_eq]; exact ⟨R, h1, h2, h4⟩
        · simp only [aOpR, hc, hhc, aCallD, hb, avsK_eq]; exact ⟨R, h1, h2, h4⟩
      · exact hk.elim
    · rename_i b hc
      unfold aBuiltin at hk
      split at hk
      · rename_i x t r hl hts
        refine one (f := fun K => aLen E t x K) (det_aLen _ _) hk (fun _ _ h => ?_)
        simp only [aOpR, hc, aBuiltin, hl, hts]; exact h
      · rename_i s x t u r hl hts
        refine two (f := fun K => aAppend E t u s x heap K) (det_aAppend _ _ _ _ _) hk (by simp [cls0, hc]) (fun _ h => ?_)
        simp only [aOpR, hc, aBuiltin, hl, hts]; exact h
      · rename_i d x t r hl hts
        refine two (f := fun K => aCopy E t d x heap K) (det_aCopy _ _ _ _) hk (by simp [cls0, hc]) (fun _ h => ?_)
        simp only [aOpR, hc, aBuiltin, hl, hts]; exact h
      · rename_i k x k' y hl
        refine one (f := fun K => K (.i (.int k (if y < x then y else x)))) (det_const _) hk (fun _ _ h => ?_)
        simp only [aOpR, hc, aBuiltin, hl]; exact h
      · rename_i k x k' y hl
        refine one (f := fun K => K (.i (.int k (if y > x then y else x)))) (det_const _) hk (fun _ _ h => ?_)
        simp only [aOpR, hc, aBuiltin, hl]; exact h
      · exact hk.elim
    · exact hk.elim
    · exact hk.elim
  all_goals exact hk.elim

/-- the same of what is wrapped -/
theorem det_aOp {h : Hint} {S : Spec} {dst : Option Nat} {op : Op} {tmps : List AV} {heap : List Blk} {K : AV → List Blk → Prop} (hk : aOp E h S true dst op ⟨tmps, heap⟩ K) :
    ∃ av H', K av H' ∧ (cls E h dst op ≠ 2 → cls E h dst op ≠ 3 → H' = heap) ∧ (∀ K2, K2 av H' → aOp E h S true dst op ⟨tmps, heap⟩ K2) ∧ (cls E h dst op = 0 → ∀ heap2 K2, K2 av heap2 → aOp E h S true dst op ⟨tmps, heap2⟩ K2) ∧
      (cls E h dst op = 3 → Kept h H' heap) ∧ (cls E h dst op = 4 → ∀ heap2 K2, Kept h heap2 heap → K2 av heap2 → aOp E h S true dst op ⟨tmps, heap2⟩ K2) := by
  have hk : aOpR E h S true dst op ⟨tmps, heap⟩ (wrapK E h true dst op heap K) := hk
  obtain ⟨av, H', h1, h2, h3, h4, h5⟩ := det_aOpR hk
  have hw : ∀ K2 : AV → List Blk → Prop, (cls E h dst op = 3 → Kept h H' heap) → K2 av H' → wrapK E h true dst op heap K2 av H' := by
    intro K2 hq hk2
    unfold wrapK
    cases hb : (true && Nat.beq (cls E h dst op) 3) with
    | true => exact (keepsK_iff _ _ _ _).2 ⟨hq (Nat.eq_of_beq_eq_true (by simpa using hb)), hk2⟩
    | false => exact hk2
  have hq : cls E h dst op = 3 → Kept h H' heap := by
    intro hc
    unfold wrapK at h1
    rw [hc] at h1
    exact ((keepsK_iff _ _ _ _).1 h1).1
  have hn : ∀ heap2 (K2 : AV → List Blk → Prop) v H, cls E h dst op ≠ 3 → K2 v H → wrapK E h true dst op heap2 K2 v H := by
    intro heap2 K2 v H hc hk2
    unfold wrapK
    cases hb : (true && Nat.beq (cls E h dst op) 3) with
    | true => exact absurd (Nat.eq_of_beq_eq_true (by simpa using hb)) hc
    | false => exact hk2
  have hcc := cls_cases E h dst op
  exact ⟨av, H', wrapK_to h1, fun c2 c3 => h2 (by rcases hcc with hcc | hcc <;> omega), fun K2 hk2 => h3 _ (hw K2 hq hk2), fun hc heap2 K2 hk2 => h4 (by rcases hcc with hcc | hcc <;> omega) heap2 _ (hn _ _ _ _ (by omega) hk2), hq,
    fun hc heap2 K2 hkp hk2 => h5 (by rcases hcc with hcc | hcc <;> omega) heap2 _ hkp (hn _ _ _ _ (by omega) hk2)⟩

end
end Go.Abs
