/- A part of the proof of a seat of parts: AbsDraw, AbsEnd, EnvLib, AbsCut. -/
import Derived.Orders
import Derived.Test.YtmfilaagpobmbaaGreatDoorA4
set_option linter.all false
namespace Go.Abs
open Go
set_option linter.unusedSimpArgs false

/-- one operation waits for another, through others -/
inductive Dep (ops : Array Oper) : Nat → Nat → Prop
  | one {i : Nat} {o : Oper} {e : Edge} (h : ops[i]? = some o) (he : e ∈ o.after.toList) (hb : Region.binds .any e = true) : Dep ops i e.on
  | more {i j : Nat} {o : Oper} {e : Edge} (h : ops[i]? = some o) (he : e ∈ o.after.toList) (hb : Region.binds .any e = true) (hd : Dep ops e.on j) : Dep ops i j

def uni (a b : List Nat) : List Nat := b.foldl (fun acc x => match has acc x with | true => acc | false => x :: acc) a

def ancOf (ancs : List (List Nat)) : List Edge → List Nat → List Nat
  | [], acc => acc
  | e :: r, acc => match Region.binds .any e with
    | true => ancOf ancs r (uni acc (e.on :: ancs.getD e.on []))
    | false => ancOf ancs r acc

/-- of two classes: may the order count? -/
def clash : Nat → Nat → Bool
  | 0, _ => false
  | _, 0 => false
  | 1, 1 => false
  | 1, 4 => false
  | 4, 1 => false
  | 4, 4 => false
  | 3, 4 => false
  | 4, 3 => false
  | _, _ => true

/-- may the two be done in either order? -/
def free (E : Env) (hh : Hint) (ops : Array Oper) (x y : Oper) : Bool :=
  x.apart ops y && !clash (cls E hh x.dst x.op) (cls E hh y.dst y.op)

def freeAll (E : Env) (hh : Hint) (ops : Array Oper) (o : Oper) (an : List Nat) : Nat → List Oper → Bool
  | _, [] => true
  | j, x :: r => (has an j || free E hh ops x o) && freeAll E hh ops o an (j + 1) r

def drawOkAt (E : Env) (hh : Hint) (ops : Array Oper) : Nat → List Oper → List (List Nat) → List Oper → Bool
  | _, _, _, [] => true
  | i, done, ancs, o :: r => (o.after.toList.all fun e => !Region.binds .any e || Nat.blt e.on i) && freeAll E hh ops o (ancOf ancs o.after.toList []) 0 done && drawOkAt E hh ops (i + 1) (done ++ [o]) (ancs ++ [ancOf ancs o.after.toList []]) r

/-- a region's orders come to the same -/
def drawOk (E : Env) (hh : Hint) (ops : Array Oper) : Bool := drawOkAt E hh ops 0 [] [] ops.toList

theorem freeAll_get {E : Env} {hh : Hint} {ops : Array Oper} {o : Oper} {an : List Nat} (l : List Oper) : ∀ (k j : Nat) (x : Oper), freeAll E hh ops o an k l = true → l[j]? = some x → has an (k + j) = true ∨ free E hh ops x o = true := by
  induction l with
  | nil => intro k j x _ hx; simp at hx
  | cons y l ih =>
    intro k j x h hx
    simp only [freeAll, Bool.and_eq_true, Bool.or_eq_true] at h
    cases j with
    | zero => simp at hx; subst hx; exact h.1
    | succ j =>
      have := ih (k + 1) j x h.2 (by simpa using hx)
      rwa [Nat.add_assoc, Nat.add_comm 1 j] at this

theorem has_uni (b : List Nat) : ∀ (a : List Nat) (x : Nat), has (uni a b) x = true → has a x = true ∨ x ∈ b := by
  induction b with
  | nil => intro a x h; exact .inl h
  | cons y b ih =>
    intro a x h
    simp only [uni, List.foldl_cons] at h
    have h := ih _ x h
    rcases h with h | h
    · split at h
      · exact .inl h
      · simp only [has] at h
        split at h
        · rename_i e; exact .inr (by rw [Nat.eq_of_beq_eq_true e]; simp)
        · exact .inl h
    · exact .inr (by simp [h])

theorem mem_of_has (l : List Nat) : ∀ x, has l x = true → x ∈ l := by
  induction l with
  | nil => intro x h; simp [has] at h
  | cons y l ih =>
    intro x h
    simp only [has] at h
    split at h
    · rename_i e; rw [Nat.eq_of_beq_eq_true e]; simp
    · simp [ih x h]

theorem has_of_mem (l : List Nat) : ∀ x, x ∈ l → has l x = true := by
  induction l with
  | nil => intro x h; simp at h
  | cons y l ih =>
    intro x h
    simp only [has]
    split
    · rfl
    · rename_i e
      rcases List.mem_cons.1 h with rfl | h
      · simp at e
      · exact ih x h

theorem ancOf_dep {ops : Array Oper} {ancs : List (List Nat)} (ha : ∀ m j, has (ancs.getD m []) j = true → Dep ops m j) {i : Nat} {o : Oper} (ho : ops[i]? = some o) : ∀ (l : List Edge) (acc : List Nat), (∀ e ∈ l, e ∈ o.after.toList) → (∀ j, has acc j = true → Dep ops i j) →
    ∀ j, has (ancOf ancs l acc) j = true → Dep ops i j := by
  intro l
  induction l with
  | nil => intro acc _ h j hj; exact h j hj
  | cons e l ih =>
    intro acc hl h j hj
    unfold ancOf at hj
    split at hj
    · rename_i hb
      refine ih _ (fun e' he' => hl e' (by simp [he'])) (fun x hx => ?_) j hj
      rcases has_uni _ _ _ hx with hx | hx
      · exact h x hx
      · rcases List.mem_cons.1 hx with rfl | hx
        · exact .one ho (hl e (by simp)) hb
        · exact .more ho (hl e (by simp)) hb (ha _ _ (has_of_mem _ _ hx))
    · exact ih _ (fun e' he' => hl e' (by simp [he'])) h j hj

theorem drawOkAt_get {E : Env} {hh : Hint} {ops : Array Oper} (l : List Oper) : ∀ (done : List Oper) (ancs : List (List Nat)) (k i : Nat) (o : Oper), drawOkAt E hh ops k done ancs l = true → done.length = k → ancs.length = k → (∀ (m : Nat) (x : Oper), (done ++ l)[m]? = some x → ops[m]? = some x) →
    (∀ (m j : Nat), has (ancs.getD m []) j = true → Dep ops m j) → l[i]? = some o →
    (∀ e ∈ o.after.toList, Region.binds .any e = true → e.on < k + i) ∧ ∀ (j : Nat) (x : Oper), j < k + i → (done ++ l)[j]? = some x → Dep ops (k + i) j ∨ free E hh ops x o = true := by
  induction l with
  | nil => intro done ancs k i o _ _ _ _ _ ho; simp at ho
  | cons y l ih =>
    intro done ancs k i o h hl hal hops hanc ho
    simp only [drawOkAt, Bool.and_eq_true] at h
    have hy : ops[k]? = some y := hops k y (by rw [List.getElem?_append, if_neg (by omega), hl]; simp)
    have hdep := ancOf_dep hanc hy y.after.toList [] (fun _ h => h) (fun j hj => by simp [has] at hj)
    cases i with
    | zero =>
      simp at ho; subst ho
      obtain ⟨⟨h1, h2⟩, _⟩ := h
      simp only [List.all_eq_true, Bool.or_eq_true, Bool.not_eq_true'] at h1
      refine ⟨fun e he hb => ?_, fun j x hj hx => ?_⟩
      · rcases h1 e he with h' | h'
        · rw [hb] at h'; simp at h'
        · simpa using h'
      · rw [List.getElem?_append, if_pos (by omega)] at hx
        have := freeAll_get done 0 j x h2 hx
        rw [Nat.zero_add] at this
        rcases this with h' | h'
        · exact .inl (hdep j h')
        · exact .inr h'
    | succ i =>
      have := ih (done ++ [y]) (ancs ++ [ancOf ancs y.after.toList []]) (k + 1) i o h.2 (by simp [hl]) (by simp [hal]) (by rw [List.append_assoc, List.singleton_append]; exact hops) (fun m j hj => by
        by_cases hm : m < ancs.length
        · refine hanc m j ?_
          simpa [List.getD, List.getElem?_append, hm] using hj
        · by_cases hm' : m = k
          · subst hm'
            refine hdep j ?_
            simpa [List.getD, List.getElem?_append, hm, hal] using hj
          · have : (ancs ++ [ancOf ancs y.after.toList []]).getD m [] = [] := by
              simp only [List.getD]
              rw [List.getElem?_eq_none (by simp; omega)]; rfl
            rw [this] at hj; simp [has] at hj) (by simpa using ho)
      rw [List.append_assoc, List.singleton_append] at this
      rw [show k + (i + 1) = k + 1 + i by omega]
      exact this

theorem drawOk_get {E : Env} {hh : Hint} {ops : Array Oper} (h : drawOk E hh ops = true) {i : Nat} {o : Oper} (ho : ops[i]? = some o) :
    (∀ e ∈ o.after.toList, Region.binds .any e = true → e.on < i) ∧ ∀ (j : Nat) (x : Oper), j < i → ops[j]? = some x → Dep ops i j ∨ free E hh ops x o = true := by
  have := drawOkAt_get ops.toList [] [] 0 i o h rfl rfl (fun m x hx => by simpa using hx) (fun m j hj => by simp [has] at hj) (by simpa using ho)
  simpa using this

theorem drawOk_edges {E : Env} {hh : Hint} {ops : Array Oper} (h : drawOk E hh ops = true) {i : Nat} {o : Oper} (ho : ops[i]? = some o) : ∀ e ∈ o.after.toList, Region.binds .any e = true → e.on < i :=
  (drawOk_get h ho).1

theorem drawOk_free {E : Env} {hh : Hint} {ops : Array Oper} (h : drawOk E hh ops = true) {i j : Nat} {o x : Oper} (ho : ops[i]? = some o) (hx : ops[j]? = some x) (hj : j < i) (hd : ¬ Dep ops i j) : free E hh ops x o = true := by
  rcases (drawOk_get h ho).2 j x hj hx with h' | h'
  · exact absurd h' hd
  · exact h'

/-- what waits comes behind -/
theorem Dep.done {ops : Array Oper} {listed : Array Bool} (hcl : ∀ k o, ops[k]? = some o → listed.getD k false = true → ∀ e ∈ o.after.toList, Region.binds .any e = true → listed.getD e.on false = true)
    {i j : Nat} (h : Dep ops i j) : (∀ o, ops[i]? = some o → ∀ e ∈ o.after.toList, Region.binds .any e = true → listed.getD e.on false = true) → listed.getD j false = true := by
  induction h with
  | one h he hb => intro hi; exact hi _ h _ he hb
  | more h he hb hd ih => intro hi; exact ih (fun o ho => hcl _ o ho (hi _ h _ he hb))

section
variable {P : Program} {E : Env}

theorem aOp_congr {h : Hint} {S : Spec} {d : Bool} {dst : Option Nat} {op : Op} {t t' : List AV} {heap : List Blk} {K : AV → List Blk → Prop} (he : ∀ x ∈ op.operands, E.ev t x = E.ev t' x) :
    aOp E h S d dst op ⟨t, heap⟩ K = aOp E h S d dst op ⟨t', heap⟩ K := by
  have args : ∀ (l : Array Operand), (∀ x ∈ l, E.ev t x = E.ev t' x) → l.toList.map (E.ev t) = l.toList.map (E.ev t') := fun l hl => List.map_congr_left fun x hx => hl x (by simpa using hx)
  have parts : ∀ (ps : Array (Nat × Operand)), (∀ x ∈ (ps.toList.map (·.2)).toArray, E.ev t x = E.ev t' x) → ps.toList.map (fun p => (p.1, E.ev t p.2)) = ps.toList.map (fun p => (p.1, E.ev t' p.2)) := fun ps hl =>
    List.map_congr_left fun p hp => by rw [hl p.2 (by simp; exact ⟨p.1, by simpa using hp⟩)]
  have opt : ∀ (o : Option Operand), (∀ x ∈ o.toArray, E.ev t x = E.ev t' x) → oapp (E.ev t) o = oapp (E.ev t') o := fun o ho => by
    cases o with
    | none => rfl
    | some x => simp only [oapp]; rw [ho x (by simp)]
  unfold aOp
  generalize wrapK E h d dst op heap K = K
  cases op <;> simp only [aOpR] <;> simp only [Op.operands] at he
  case move x => rw [he x (by simp)]
  case assign x => rw [he x (by simp)]
  case pick c a b => rw [he c (by simp), he a (by simp), he b (by simp)]
  case box e x => rw [he x (by simp)]
  case build e ps => rw [parts ps he]
  case buildSlice e n ps => rw [parts ps he]
  case load e x => rw [he x (by simp)]
  case store e x y => rw [he x (by simp), he y (by simp)]
  case nilCheck x => rw [he x (by simp)]
  case binOp o e x y u => rw [he x (by simp), he y (by simp)]
  case unOp o e x => rw [he x (by simp)]
  case convert s e x => rw [he x (by simp)]
  case makeSlice e x y => rw [he x (by simp), he y (by simp)]
  case slice e x l h m =>
    rw [he x (by simp), opt l (fun y hy => he y (by simp at hy ⊢; simp [hy])), opt h (fun y hy => he y (by simp at hy ⊢; simp [hy])), opt m (fun y hy => he y (by simp at hy ⊢; simp [hy]))]
  case fieldAddr e x f => rw [he x (by simp)]
  case field e x f => rw [he x (by simp)]
  case indexAddr e x y => rw [he x (by simp), he y (by simp)]
  case index e x y => rw [he x (by simp), he y (by simp)]
  case extract x i => rw [he x (by simp)]
  case call c =>
    have ha := args c.args (fun x hx => he x (by simp [Call.operands, hx]))
    rw [ha]
    split
    · rfl
    · rfl
    · rename_i x hnf hx
      have hv : E.ev t x = E.ev t' x := he x (by simp [Call.operands, hx])
      rw [hv]
    · rfl
  case makeFunc fn first cap =>
    rw [args first (fun x hx => he x (by simp [hx])), args cap (fun x hx => he x (by simp [hx]))]

/-- what one operation did, in the text's order -/
def Did (E : Env) (hh : Hint) (S : Spec) (ops : Array Oper) (o : Oper) (t : List AV) (h : List Blk) (av : AV) (h1 : List Blk) : Prop :=
  ((cls E hh o.dst o.op ≠ 2 → cls E hh o.dst o.op ≠ 3 → h1 = h) ∧ (cls E hh o.dst o.op = 3 → Kept hh h1 h)) ∧
  ((av = .hole ∧ h1 = h ∧ ∃ j want, o.guard = some (j, want) ∧ (guardAv ops.toList t j = .hole ∨ ∃ b, guardAv ops.toList t j = .one (.imm (.bool b)) ∧ beqB b want = false)) ∨
   ((o.guard = none ∨ ∃ j want b, o.guard = some (j, want) ∧ guardAv ops.toList t j = .one (.imm (.bool b)) ∧ beqB b want = true) ∧
     (∀ K2, K2 av h1 → aOp E hh S true o.dst o.op ⟨t, h⟩ K2) ∧ (cls E hh o.dst o.op = 0 → ∀ heap2 K2, K2 av heap2 → aOp E hh S true o.dst o.op ⟨t, heap2⟩ K2) ∧
     (cls E hh o.dst o.op = 4 → ∀ heap2 K2, Kept hh heap2 h → K2 av heap2 → aOp E hh S true o.dst o.op ⟨t, heap2⟩ K2)))

def TrI (E : Env) (hh : Hint) (S : Spec) (ops : Array Oper) : List Nat → List AV → List Blk → List (AV × List Blk) → (Fr → Prop) → Prop
  | [], t, h, [], K => K ⟨t, h⟩
  | i :: l, t, h, (av, h1) :: r, K => ∃ o, ops[i]? = some o ∧ Did E hh S ops o t h av h1 ∧ TrI E hh S ops l (aput t o.dst av) h1 r K
  | _, _, _, _, _ => False

theorem trace {hh : Hint} {S : Spec} {ops : Array Oper} {K : Fr → Prop} : ∀ (l : List Oper) (k : Nat) (fr : Fr), (∀ (j : Nat) o, l[j]? = some o → ops[k + j]? = some o) → aOps E hh S true ops.toList l fr K → ∃ r, TrI E hh S ops (List.range' k l.length) fr.tmps fr.heap r K
  | [], k, fr, _, h => ⟨[], h⟩
  | o :: l, k, fr, hl, h => by
    have ho : ops[k]? = some o := by simpa using hl 0 o rfl
    have hl' : ∀ (j : Nat) o', l[j]? = some o' → ops[k + 1 + j]? = some o' := fun j o' hj => by
      have := hl (j + 1) o' (by simpa using hj)
      rwa [show k + 1 + j = k + (j + 1) by omega]
    rw [aOps_cons] at h
    have run : aOp E hh S true o.dst o.op fr (aNext o.dst fr fun fr => aOps E hh S true ops.toList l fr K) → (o.guard = none ∨ ∃ j want b, o.guard = some (j, want) ∧ guardAv ops.toList fr.tmps j = .one (.imm (.bool b)) ∧ beqB b want = true) →
        ∃ r, TrI E hh S ops (List.range' k (o :: l).length) fr.tmps fr.heap r K := by
      intro hk hg
      obtain ⟨av, H', h1, h2, h3, h4, h5, h6⟩ := det_aOp (tmps := fr.tmps) (heap := fr.heap) hk
      rw [aNext_eq] at h1
      obtain ⟨r, hr⟩ := trace l (k + 1) _ hl' h1
      exact ⟨(av, H') :: r, o, ho, ⟨⟨h2, h5⟩, .inr ⟨hg, h3, h4, h6⟩⟩, hr⟩
    have skip : aNext o.dst fr (fun fr => aOps E hh S true ops.toList l fr K) .hole fr.heap → (∃ j want, o.guard = some (j, want) ∧ (guardAv ops.toList fr.tmps j = .hole ∨ ∃ b, guardAv ops.toList fr.tmps j = .one (.imm (.bool b)) ∧ beqB b want = false)) →
        ∃ r, TrI E hh S ops (List.range' k (o :: l).length) fr.tmps fr.heap r K := by
      intro hk hg
      rw [aNext_eq] at hk
      obtain ⟨r, hr⟩ := trace l (k + 1) _ hl' hk
      exact ⟨(.hole, fr.heap) :: r, o, ho, ⟨⟨fun _ _ => rfl, fun _ => .refl _ _⟩, .inl ⟨rfl, rfl, hg⟩⟩, hr⟩
    split at h
    · rename_i hg; exact run h (.inl hg)
    · rename_i j want hg
      split at h
      · rename_i b hb
        split at h
        · rename_i hbw; exact run h (.inr ⟨j, want, b, hg, hb, hbw⟩)
        · rename_i hbw; exact skip h ⟨j, want, hg, .inr ⟨b, hb, hbw⟩⟩
      · rename_i hb; exact skip h ⟨j, want, hg, .inl hb⟩
      · exact h.elim

/-- slots that an operation does not look at may be otherwise -/
theorem Did.slots {hh : Hint} {S : Spec} {ops : Array Oper} {o : Oper} {t t' : List AV} {h : List Blk} {av : AV} {h1 : List Blk} (ht : ∀ d ∈ o.looksAt ops, t.getD d .undef = t'.getD d .undef) (hd : Did E hh S ops o t h av h1) : Did E hh S ops o t' h av h1 := by
  have hev : ∀ x ∈ o.op.operands, E.ev t x = E.ev t' x := by
    intro x hx
    cases x with
    | tmp d =>
      apply ht
      simp only [Oper.looksAt, List.mem_append, List.mem_filterMap]
      exact .inl ⟨.tmp d, by simpa using hx, rfl⟩
    | const v => rfl
    | global g => rfl
    | func f => rfl
  have hgv : ∀ j want, o.guard = some (j, want) → guardAv ops.toList t j = guardAv ops.toList t' j := by
    intro j want hg
    unfold guardAv
    split
    · rename_i oj hoj
      split
      · rename_i d hdd
        apply ht
        have hjo : ops[j]? = some oj := by simpa using hoj
        simp only [Oper.looksAt, List.mem_append]
        right
        simp [hg, hjo, hdd]
      · rfl
    · rfl
  refine ⟨hd.1, ?_⟩
  rcases hd.2 with ⟨a1, a2, j, want, a3, a4⟩ | ⟨a1, a2, a3, a5⟩
  · exact .inl ⟨a1, a2, j, want, a3, by rw [← hgv j want a3]; exact a4⟩
  · refine .inr ⟨?_, fun K2 hk => ?_, fun hc heap2 K2 hk => ?_, fun hc heap2 K2 hkp hk => ?_⟩
    · rcases a1 with a1 | ⟨j, want, b, b1, b2, b3⟩
      · exact .inl a1
      · exact .inr ⟨j, want, b, b1, by rw [← hgv j want b1]; exact b2, b3⟩
    · rw [← aOp_congr hev]; exact a2 K2 hk
    · rw [← aOp_congr hev]; exact a3 hc heap2 K2 hk
    · rw [← aOp_congr hev]; exact a5 hc heap2 K2 hkp hk

/-- what does not touch the frame's blocks does the same over others -/
theorem Did.heap {hh : Hint} {S : Spec} {ops : Array Oper} {o : Oper} {t : List AV} {h h' : List Blk} {av : AV} {h1 : List Blk} (hc : cls E hh o.dst o.op = 0) (hd : Did E hh S ops o t h av h1) : Did E hh S ops o t h' av h' := by
  refine ⟨⟨fun _ _ => rfl, fun _ => .refl _ _⟩, ?_⟩
  rcases hd.2 with ⟨a1, a2, a3⟩ | ⟨a1, a2, a3, a4⟩
  · exact .inl ⟨a1, rfl, a3⟩
  · exact .inr ⟨a1, fun K2 hk => a3 hc h' K2 hk, a3, fun h4 => by rw [hc] at h4; simp at h4⟩

/-- a load of what is kept does the same where that is kept -/
theorem Did.kept {hh : Hint} {S : Spec} {ops : Array Oper} {o : Oper} {t : List AV} {h h' : List Blk} {av : AV} {h1 : List Blk} (hc : cls E hh o.dst o.op = 4) (hk : Kept hh h' h) (hd : Did E hh S ops o t h av h1) : Did E hh S ops o t h' av h' := by
  refine ⟨⟨fun _ _ => rfl, fun _ => .refl _ _⟩, ?_⟩
  rcases hd.2 with ⟨a1, a2, a3⟩ | ⟨a1, a2, a3, a4⟩
  · exact .inl ⟨a1, rfl, a3⟩
  · exact .inr ⟨a1, fun K2 hk2 => a4 hc h' K2 hk hk2, a3, fun h4 heap2 K2 hk3 hk2 => a4 hc heap2 K2 (fun i hi => (hk3 i hi).trans (hk i hi)) hk2⟩

theorem getD_aput {t : List AV} {d : Option Nat} {v : AV} {x : Nat} (h : d ≠ some x) : (aput t d v).getD x .undef = t.getD x .undef := by
  cases d with
  | none => rfl
  | some d =>
    simp only [aput, List.getD, List.getElem?_set]
    rw [if_neg (fun e => h (by rw [e]))]

theorem aput_comm {t : List AV} {a b : Option Nat} {u v : AV} (h : ∀ d, a = some d → b ≠ some d) : aput (aput t a u) b v = aput (aput t b v) a u := by
  cases a with
  | none => rfl
  | some a =>
    cases b with
    | none => rfl
    | some b => simp only [aput]; exact List.set_comm _ _ (fun e => h a rfl (by rw [e]))

/-- two neighbours change places -/
theorem TrI.swap {hh : Hint} {S : Spec} {ops : Array Oper} {i j : Nat} {oi oj : Oper} (hi : ops[i]? = some oi) (hj : ops[j]? = some oj) (hf : free E hh ops oi oj = true) {l : List Nat} {t : List AV} {h : List Blk} {r : List (AV × List Blk)} {K : Fr → Prop}
    (htr : TrI E hh S ops (i :: j :: l) t h r K) : ∃ r', TrI E hh S ops (j :: i :: l) t h r' K := by
  rcases r with _ | ⟨⟨av, h1⟩, _ | ⟨⟨bv, h2⟩, r⟩⟩
  · exact htr.elim
  · obtain ⟨_, _, _, hr⟩ := htr; exact hr.elim
  · obtain ⟨o, ho, d1, o', ho', d2, hr⟩ := htr
    rw [hi] at ho; simp at ho; subst ho
    rw [hj] at ho'; simp at ho'; subst ho'
    simp only [free, Bool.and_eq_true, Bool.not_eq_true'] at hf
    obtain ⟨hap, hw⟩ := hf
    obtain ⟨p1, p2, p3⟩ := Oper.apart_spec hap
    have s2 : Did E hh S ops oj t h1 bv h2 := d2.slots (fun d hd => getD_aput (fun e => p1 d e hd))
    have key : ∃ h1', Did E hh S ops oj t h bv h1' ∧ Did E hh S ops oi t h1' av h2 := by
      by_cases z1 : cls E hh oi.dst oi.op = 0
      · have e1 : h1 = h := d1.1.1 (by rw [z1]; simp) (by rw [z1]; simp)
        exact ⟨h2, by rw [← e1]; exact s2, d1.heap z1⟩
      by_cases z2 : cls E hh oj.dst oj.op = 0
      · have e2 : h2 = h1 := d2.1.1 (by rw [z2]; simp) (by rw [z2]; simp)
        exact ⟨h, s2.heap z2, by rw [e2]; exact d1⟩
      by_cases c1 : cls E hh oi.dst oi.op = 3
      · have c2 : cls E hh oj.dst oj.op = 4 := by
          rw [c1] at hw
          revert hw z2
          generalize cls E hh oj.dst oj.op = n
          unfold clash
          split <;> simp_all
        have e2 : h2 = h1 := d2.1.1 (by rw [c2]; simp) (by rw [c2]; simp)
        exact ⟨h, s2.kept c2 (d1.1.2 c1).symm, by rw [e2]; exact d1⟩
      by_cases c2 : cls E hh oj.dst oj.op = 3
      · have c1 : cls E hh oi.dst oi.op = 4 := by
          rw [c2] at hw
          revert hw z1
          generalize cls E hh oi.dst oi.op = n
          unfold clash
          split <;> simp_all
        have e1 : h1 = h := d1.1.1 (by rw [c1]; simp) (by rw [c1]; simp)
        rw [e1] at s2
        exact ⟨h2, s2, d1.kept c1 (s2.1.2 c2)⟩
      have n1 : cls E hh oi.dst oi.op ≠ 2 := by
        intro c
        rw [c] at hw
        revert hw z2
        generalize cls E hh oj.dst oj.op = n
        unfold clash
        split <;> simp_all
      have n2 : cls E hh oj.dst oj.op ≠ 2 := by
        intro c
        rw [c] at hw
        revert hw z1
        generalize cls E hh oi.dst oi.op = n
        unfold clash
        split <;> simp_all
      have e1 : h1 = h := d1.1.1 n1 c1
      have e2 : h2 = h1 := d2.1.1 n2 c2
      rw [e1] at s2 e2 d1
      exact ⟨h, by rw [e2] at s2; exact s2, by rw [e2]; exact d1⟩
    obtain ⟨h1', k1, k2⟩ := key
    refine ⟨(bv, h1') :: (av, h2) :: r, oj, hj, k1, oi, hi, k2.slots (fun d hd => (getD_aput (fun e => p3 d e hd)).symm), ?_⟩
    rw [aput_comm (fun d e1 e2 => p2 d e2 e1)]
    exact hr

theorem TrI.front {hh : Hint} {S : Spec} {ops : Array Oper} {i : Nat} {oi : Oper} (hi : ops[i]? = some oi) {B : List Nat} {K : Fr → Prop} (A : List Nat) : ∀ (t : List AV) (h : List Blk) (r : List (AV × List Blk)),
    (∀ j ∈ A, ∃ oj, ops[j]? = some oj ∧ free E hh ops oj oi = true) → TrI E hh S ops (A ++ i :: B) t h r K → ∃ r', TrI E hh S ops (i :: (A ++ B)) t h r' K := by
  induction A with
  | nil => intro t h r _ htr; exact ⟨r, htr⟩
  | cons j A ih =>
    intro t h r hA htr
    rcases r with _ | ⟨⟨av, h1⟩, r⟩
    · exact htr.elim
    · obtain ⟨o, ho, d1, hr⟩ := htr
      obtain ⟨r', hr'⟩ := ih _ _ r (fun k hk => hA k (by simp [hk])) hr
      obtain ⟨oj, hoj, hf⟩ := hA j (by simp)
      exact TrI.swap hoj hi hf (r := (av, h1) :: r') ⟨o, ho, d1, hr'⟩

end
end Go.Abs

namespace Go.Abs
open Go
set_option linter.unusedSimpArgs false

section
variable {P : Program} {E : Env}

/-- one operation of a drawn region, wherever it stands -/
theorem Did.wp (hT : TyOk P E) (hE : EqOk P E) {hh : Hint} {ops : Array Oper} {i : Nat} {o : Oper} (ho : ops[i]? = some o) {w0 : World} {g0 : Gh} {H0 : List Blk} {t : List AV} {h : List Blk} {a : Act} {w : World} {g : Gh} (hs : St E w0 g0 H0 ⟨t, h⟩ a w g)
    {av : AV} {h1 : List Blk} (hd : Did E hh (Snd P E) ops o t h av h1) {K : Act → World → Prop} {Q : Exit → Act → World → Prop} (hK : ∀ a' w' g', St E w0 g0 H0 ⟨aput t o.dst av, h1⟩ a' w' g' → K a' w') : wpOp P ops Q i K a w := by
  unfold wpOp
  simp only [ho]
  rcases hd.2 with ⟨rfl, rfl, j, want, hg, hv⟩ | ⟨hg, hk, hk0, hk4⟩
  · have hw : Region.wanted o (yielded ops a.tmps) = false := by
      rcases hv with hv | ⟨b, hv, hb⟩
      · exact wanted_hole hs.slots hg hv
      · rw [wanted_of hs.slots hg hv]; revert hb; cases b <;> cases want <;> simp [beqB]
    rw [hw]
    simp only [Bool.false_eq_true, if_false]
    exact hK _ _ _ (hs.next (av := .hole) (v := undef) hs.sim (.refl _ _ _) (.refl _) (show undef = undef from rfl))
  · have hw : Region.wanted o (yielded ops a.tmps) = true := by
      rcases hg with hg | ⟨j, want, b, hg, hv, hb⟩
      · simp [Region.wanted, hg]
      · rw [wanted_of hs.slots hg hv]; revert hb; cases b <;> cases want <;> simp [beqB]
    rw [hw, if_pos rfl]
    left
    have hf : ∀ x, AVR w g (E.ev t x) (a.eval x) := fun x => hs.slots.ev hs.sim x
    have hkk := hk (fun v H => v = av ∧ H = h1) ⟨rfl, rfl⟩
    by_cases hc : ∃ c f, o.op = .call c ∧ c.callee = .value (.func f)
    · obtain ⟨c, f, hop, hcal⟩ := hc
      cases hhc : o.dst.any (has hh.hc) with
      | true =>
        rw [hop] at hkk
        simp only [aOp, aOpR, hcal, hhc] at hkk
        obtain ⟨R, Hr, hcall, hkk⟩ := hkk
        obtain ⟨rfl, rfl⟩ := wrapK_to hkk
        obtain ⟨⟨fn, h1', h2, h3⟩, hcall⟩ := aCall_sound hs.sim (argsR hf c.args) hcall
        unfold Oper.wp
        rw [exec_call hop hcal rfl h1' h2 h3]
        simp only [Oper.upon]
        refine hcall.mono ?_
        rintro e w' ⟨v, g', r, H', rfl, s', st', ol', hr, rfl, rfl⟩
        exact hK _ _ _ (hs.next s' st' ol' hr)
      | false =>
      have hc0 : cls E hh o.dst o.op = 0 := by rw [hop]; simp only [cls, cls0, hcal, hhc]; rfl
      have e1 : h1 = h := hd.1.1 (by rw [hc0]; simp) (by rw [hc0]; simp)
      rw [hop] at hkk
      simp only [aOp, aOpR, hcal, hhc, aCallD] at hkk
      split at hkk
      · rename_i hb
        rw [avsK_eq] at hkk
        obtain ⟨R, c1, c2, hkk⟩ := hkk
        obtain ⟨hRav, _⟩ := wrapK_to hkk
        have hargs := argsR hf c.args
        -- a call that is handed nothing of the frame's own
        have hs0 : Sim E w ⟨g.imm, fun _ => []⟩ [] := ⟨fun id B hid => by simp at hid, fun id B _ _ _ _ hid => by simp at hid, fun b hb => by obtain ⟨id, B, hid, _⟩ := hb; simp at hid, hs.sim.lt, fun _ _ => rfl, hs.sim.glob⟩
        have hnone : ∀ {x : AV}, x.inB [] = true → ∀ id, id ∉ x.ids := by
          intro x hx id hid
          simp only [AV.inB, List.all_eq_true] at hx
          have := hx id hid
          simp [has] at this
        have hargs0 : L2 (AVR w ⟨g.imm, fun _ => []⟩) (c.args.toList.map (E.ev t)) (c.args.map a.eval).toList := hargs.mem fun x v hm hr => by
          have hx : x.inB [] = true := (List.all_eq_true.1 hb) x hm
          have := AVR.ren (g := g) (g' := ⟨g.imm, fun _ => []⟩) (f := id) rfl (fun id hid => absurd hid (hnone hx id)) hr
          rwa [AV.ren_id] at this
        obtain ⟨⟨fn, f1, f2, f3⟩, hcall⟩ := c1 w _ _ hs0 hargs0
        unfold Oper.wp
        rw [exec_call hop hcal rfl f1 f2 f3]
        simp only [Oper.upon]
        refine hcall.mono ?_
        rintro e w' ⟨v, g', r, H', rfl, s', st', ol', hlen, hr, hrR, hH'⟩
        subst hH'
        rw [hrR] at hr
        -- the frame's own is as it was
        have hno : ∀ b, ¬ Owned (⟨g.imm, fun _ => []⟩ : Gh) [] b := fun b hb => by obtain ⟨id, B, hid, _⟩ := hb; simp at hid
        have hrd : ∀ iv v, Rd w g.imm iv v → Rd w' g'.imm iv v := fun iv v h => Rd.step hs0 st' h
        have hold : ∀ b, b < w.heap.size → w'.heap[b]? = w.heap[b]? := fun b hb => st'.frame b hb (hno b)
        have hsub : ∀ b, g'.imm b → g.imm b ∨ w.heap.size ≤ b := fun b hb => by
          rcases st'.immSub b hb with h | h | h
          · exact .inl h
          · exact absurd h (hno b)
          · exact .inr h
        have hlt : ∀ b, Owned g h b → b < w.heap.size := fun b hb => hs.sim.own_lt hb
        have s2 : Sim E w' ⟨g'.imm, g.own⟩ h := by
          refine ⟨fun id B hid => BlkR.keep (g := g) (g' := ⟨g'.imm, g.own⟩) hrd (.of_eq rfl) rfl (fun hl r hr => hold _ (blk_lt (hs.sim.blk id B hid) hl hr)) (hs.sim.blk id B hid), hs.sim.dis, fun b hb hi => ?_, s'.lt, hs.sim.nil, s'.glob⟩
          have hb' : Owned g h b := hb
          rcases hsub b hi with h' | h'
          · exact hs.sim.imm b hb' h'
          · have := hlt b hb'; omega
        have st2 : Step w g h w' ⟨g'.imm, g.own⟩ h := ⟨st'.os, st'.tape, st'.output, st'.size, fun b hb _ => hold b hb, st'.immMono, fun b hb => (hsub b hb).elim .inl (fun h => .inr (.inr h)), fun b hb => .inl hb⟩
        have hr2 : AVR w' ⟨g'.imm, g.own⟩ R v := by
          have := AVR.ren (g := g') (g' := ⟨g'.imm, g.own⟩) (f := id) rfl (fun id hid => absurd hid (hnone c2 id)) hr
          rwa [AV.ren_id] at this
        rw [e1, ← hRav] at hK
        exact hK _ _ _ (hs.next s2 st2 (.of_eq rfl) hr2)
      · exact hkk.elim
    · have hcv : ∀ c x, o.op = .call c → c.callee ≠ .value x := by
        intro c x hop hcal
        have hnf : ∀ f, x ≠ .func f := fun f e => hc ⟨c, f, hop, by rw [hcal, e]⟩
        rw [hop] at hkk
        cases x with
        | func f => exact hnf f rfl
        | tmp t => simp only [aOp, aOpR, hcal] at hkk
        | const v => simp only [aOp, aOpR, hcal] at hkk
        | global g => simp only [aOp, aOpR, hcal] at hkk
      obtain ⟨av', H', ⟨rfl, rfl⟩, v, w', g', hrun, st', ol', s', hv⟩ := aOp_sound (P := P) hT hE hs.sim hf hcv hkk
      unfold Oper.wp
      rcases hrun with hrun | ⟨hrun, rfl⟩
      · rw [hrun]; exact hK _ _ _ (hs.next s' st' ol' hv)
      · rw [hrun]; exact hK _ _ _ (hs.next s' st' ol' hv)

theorem mem_ready {ops : Array Oper} {listed : Array Bool} {i : Nat} (h : i ∈ Region.ready .any ops listed) : ∃ o, ops[i]? = some o ∧ listed.getD i true = false ∧ ∀ e ∈ o.after.toList, Region.binds .any e = true → listed.getD e.on false = true := by
  simp only [Region.ready, List.mem_filter, List.mem_range, Bool.and_eq_true, Bool.not_eq_true'] at h
  obtain ⟨h1, h2, h3⟩ := h
  refine ⟨ops[i], Array.getElem?_eq_getElem h1, h2, fun e he hb => ?_⟩
  rw [Array.getElem?_eq_getElem h1] at h3
  simp only [Option.map_some, Option.getD_some] at h3
  rw [← Array.all_toList] at h3
  have := List.all_eq_true.1 h3 e he
  rw [hb] at this
  simpa using this

/-- a region whose order is drawn -/
theorem draw_any (hT : TyOk P E) (hE : EqOk P E) {hh : Hint} {ops : Array Oper} (hok : drawOk E hh ops = true) {w0 : World} {g0 : Gh} {H0 : List Blk} {K : Fr → Prop} {Q : Exit → Act → World → Prop} (hn : ∀ fr' a' w' g', St E w0 g0 H0 fr' a' w' g' → K fr' → Q .normal a' w') :
    ∀ (fuel : Nat) (listed : Array Bool) (rem : List Nat) (t : List AV) (h : List Blk) (r : List (AV × List Blk)) (a : Act) (w : World) (g : Gh), rem.length = fuel → listed.size = ops.size → (∀ i, i ∈ rem ↔ i < ops.size ∧ listed.getD i true = false) → (∀ (k : Nat) (o : Oper), ops[k]? = some o → listed.getD k false = true → ∀ e ∈ o.after.toList, Region.binds .any e = true → listed.getD e.on false = true) → rem.Pairwise (· < ·) →
      St E w0 g0 H0 ⟨t, h⟩ a w g → TrI E hh (Snd P E) ops rem t h r K → wpAny P .any ops Q fuel listed a w := by
  intro fuel
  induction fuel with
  | zero =>
    intro listed rem t h r a w g hl hsz hm hcl hp hs htr
    have : rem = [] := List.eq_nil_of_length_eq_zero hl
    subst this
    have hrd : Region.ready .any ops listed = [] := by
      apply List.eq_nil_iff_forall_not_mem.2
      intro i hi
      obtain ⟨o, h1, h2, _⟩ := mem_ready hi
      have := (hm i).2 ⟨(Array.getElem?_eq_some_iff.1 h1).1, h2⟩
      simp at this
    rcases r with _ | ⟨p, r⟩
    · exact ⟨hrd, hn _ _ _ _ hs htr⟩
    · exact htr.elim
  | succ fuel ih =>
    intro listed rem t h r a w g hl hsz hm hcl hp hs htr
    refine ⟨fun hrd => ?_, fun i hi => ?_⟩
    · exfalso
      rcases rem with _ | ⟨i, rem⟩
      · simp at hl
      · obtain ⟨h1, h2⟩ := (hm i).1 (by simp)
        have ho : ops[i]? = some ops[i] := Array.getElem?_eq_getElem h1
        have : i ∈ Region.ready .any ops listed := by
          simp only [Region.ready, List.mem_filter, List.mem_range, Bool.and_eq_true, Bool.not_eq_true']
          refine ⟨h1, h2, ?_⟩
          rw [ho]
          simp only [Option.map_some, Option.getD_some]
          rw [← Array.all_toList, List.all_eq_true]
          intro e he
          cases hb : Region.binds .any e with
          | false => rfl
          | true =>
            have hlt := drawOk_edges hok ho e he hb
            simp only [Bool.not_true, Bool.false_or]
            cases hq : listed.getD e.on true with
            | true =>
              have : e.on < listed.size := by omega
              simp only [Array.getD_eq_getD_getElem?, Array.getElem?_eq_getElem this, Option.getD_some] at hq ⊢
              exact hq
            | false =>
              exfalso
              have hmem := (hm e.on).2 ⟨by omega, hq⟩
              rcases List.mem_cons.1 hmem with h' | h'
              · omega
              · have := List.rel_of_pairwise_cons hp h'; omega
        rw [hrd] at this; simp at this
    · obtain ⟨o, ho, hli, hed⟩ := mem_ready hi
      have hilt : i < ops.size := (Array.getElem?_eq_some_iff.1 ho).1
      have hir := (hm i).2 ⟨hilt, hli⟩
      obtain ⟨A, B, rfl⟩ := List.append_of_mem hir
      have hA : ∀ j ∈ A, ∃ oj, ops[j]? = some oj ∧ free E hh ops oj o = true := by
        intro j hj
        obtain ⟨j1, j2⟩ := (hm j).1 (by simp [hj])
        have hoj : ops[j]? = some ops[j] := Array.getElem?_eq_getElem j1
        have hji : j < i := (List.pairwise_append.1 hp).2.2 j hj i (by simp)
        refine ⟨_, hoj, drawOk_free hok ho hoj hji fun hdep => ?_⟩
        have hle := hdep.done hcl (fun o' ho' => by rw [ho] at ho'; simp at ho'; subst ho'; exact hed)
        have : j < listed.size := by omega
        simp only [Array.getD_eq_getD_getElem?, Array.getElem?_eq_getElem this, Option.getD_some] at hle j2
        rw [hle] at j2; simp at j2
      obtain ⟨r', hr'⟩ := TrI.front ho A t h r hA htr
      rcases r' with _ | ⟨⟨av, h1⟩, r'⟩
      · exact hr'.elim
      · obtain ⟨o', ho', hd, hrest⟩ := hr'
        rw [ho] at ho'; simp at ho'; subst ho'
        refine Did.wp hT hE ho hs hd (fun a' w' g' hs' => ?_)
        refine ih (listed.setIfInBounds i true) (A ++ B) _ _ r' a' w' g' (by simp at hl ⊢; omega) (by simpa using hsz) (fun j => ?_) (fun k ok hok' hk e he hb => ?_) ?_ hs' hrest
        · simp only [Array.getD_eq_getD_getElem?, Array.getElem?_setIfInBounds]
          have hmj := hm j
          simp only [Array.getD_eq_getD_getElem?] at hmj
          by_cases e : i = j
          · subst e
            have hnd : i ∉ A ++ B := by
              have hnd := hp.imp (fun h => Nat.ne_of_lt h) 
              intro hmem
              rcases List.mem_append.1 hmem with h' | h'
              · have := (List.pairwise_append.1 hp).2.2 i h' i (by simp); omega
              · have := List.rel_of_pairwise_cons ((List.pairwise_append.1 hp).2.1) h'; omega
            rw [if_pos rfl, if_pos (by omega)]
            simp only [hnd, Option.getD_some, false_iff, not_and]
            intro _; simp
          · rw [if_neg e, ← hmj]
            simp [Ne.symm e]
        · have mono : ∀ x, listed.getD x false = true → (listed.setIfInBounds i true).getD x false = true := by
            intro x hx
            simp only [Array.getD_eq_getD_getElem?, Array.getElem?_setIfInBounds] at hx ⊢
            by_cases e : i = x
            · subst e; rw [if_pos rfl, if_pos (by omega)]; rfl
            · rw [if_neg e]; exact hx
          by_cases e' : i = k
          · subst e'
            rw [ho] at hok'; simp at hok'; subst hok'
            exact mono _ (hed e he hb)
          · refine mono _ (hcl k ok hok' ?_ e he hb)
            simp only [Array.getD_eq_getD_getElem?, Array.getElem?_setIfInBounds, if_neg e'] at hk ⊢
            exact hk
        · rw [List.pairwise_append] at hp ⊢
          exact ⟨hp.1, (List.pairwise_cons.1 hp.2.1).2, fun x hx y hy => hp.2.2 x hx y (by simp [hy])⟩

theorem region_draw (hT : TyOk P E) (hE : EqOk P E) (hm : P.follows .mixedOrders = true) {hh : Hint} {id : Nat} {ops : Array Oper} (hok : drawOk E hh ops = true) {w0 : World} {g0 : Gh} {H0 : List Blk} {K : Fr → Prop} {Q : Exit → Act → World → Prop} (hn : ∀ fr' a' w' g', St E w0 g0 H0 fr' a' w' g' → K fr' → Q .normal a' w')
    {fr : Fr} {a : Act} {w : World} {g : Gh} (hs : St E w0 g0 H0 fr a w g) (h : aOps E hh (Snd P E) true ops.toList ops.toList fr K) : (Code.region id ops true).wp P Q a w := by
  obtain ⟨r, hr⟩ := trace ops.toList 0 fr (fun j o hj => by simpa using hj) h
  have hs' : St E w0 g0 H0 fr a { w with drawn := w.drawn + 1 } g := by
    have hrd : ∀ iv v, Rd w g.imm iv v → Rd { w with drawn := w.drawn + 1 } g.imm iv v := fun iv v h => Rd.keep (w := w) (w' := { w with drawn := w.drawn + 1 }) (fun _ h => h) (fun _ _ => rfl) h
    refine ⟨⟨fun id B hid => BlkR.keep (g := g) (g' := g) hrd (.refl _) rfl (fun _ _ _ => rfl) (hs.sim.blk id B hid), hs.sim.dis, hs.sim.imm, hs.sim.lt, hs.sim.nil, fun k c hk => hrd _ _ (hs.sim.glob k c hk)⟩, FrR.keep hrd (.refl _) hs.slots, hs.step.trans ⟨rfl, rfl, rfl, Nat.le_refl _, fun _ _ _ => rfl, fun _ h => h, fun _ h => .inl h, fun _ h => .inl h⟩, hs.defers, hs.own⟩
  refine wp_region_any hm (draw_any hT hE hok hn ops.size _ (List.range' 0 ops.toList.length) fr.tmps fr.heap r a _ g (by simp) (by simp) (fun i => ?_) (fun k o _ hk => by simp [Array.getD_eq_getD_getElem?, Array.getElem?_replicate] at hk; split at hk <;> simp at hk) ?_ hs' hr)
  · simp only [List.mem_range', Array.length_toList, Array.getD_eq_getD_getElem?, Array.getElem?_replicate]
    constructor
    · rintro ⟨k, hk, rfl⟩
      rw [if_pos (by omega)]
      exact ⟨by omega, rfl⟩
    · rintro ⟨h1, _⟩
      exact ⟨i, h1, by omega⟩
  · exact List.pairwise_lt_range'

/-- all drawn regions of a code come to the same in every order -/
def drawsOk (E : Env) (hh : Hint) : Code → Bool
  | .region _ ops true => drawOk E hh ops
  | .seq a b => drawsOk E hh a && drawsOk E hh b
  | .cond _ a b => drawsOk E hh a && drawsOk E hh b
  | .block _ b => drawsOk E hh b
  | .loop b => drawsOk E hh b
  | .scope b => drawsOk E hh b
  | _ => true

theorem AVR.ids_keep {w : World} {g g' : Gh} {ids : List Nat} (hi : g'.imm = g.imm) (ho : ∀ id, has ids id = true → g'.own id = g.own id) {x : AV} {v : Value} (hx : x.inB ids = true) (h : AVR w g x v) : AVR w g' x v := by
  have := AVR.ren (g := g) (g' := g') (f := id) hi (fun id hid => ho id (by simp only [AV.inB, List.all_eq_true] at hx; exact hx id hid)) h
  rwa [AV.ren_id] at this

theorem killDead_get (live : List Nat) : ∀ (l : List Blk) (k i : Nat), (killDead live k l)[i]? = (l[i]?).map fun b => if has live (k + i) then b else .dead
  | [], k, i => by simp [killDead]
  | b :: l, k, 0 => by simp only [killDead, List.getElem?_cons_zero, Option.map_some, Nat.add_zero]; cases has live k <;> rfl
  | b :: l, k, i + 1 => by
    simp only [killDead, List.getElem?_cons_succ]
    rw [killDead_get live l (k + 1) i, show k + 1 + i = k + (i + 1) by omega]

theorem killDead_len (live : List Nat) : ∀ (l : List Blk) (k : Nat), (killDead live k l).length = l.length
  | [], _ => rfl
  | b :: l, k => by simp [killDead, killDead_len live l]

theorem bound_lt : ∀ {ids : List Nat} {x : Nat}, has ids x = true → x < bound ids
  | a :: t, x, h => by
    unfold has at h
    unfold bound
    cases hb : Nat.beq a x with
    | true =>
      have := Nat.eq_of_beq_eq_true hb; subst this
      split
      · omega
      · rename_i hq
        have : ¬ bound t ≤ a + 1 := fun h' => by rw [Nat.ble_eq_true_of_le h'] at hq; simp at hq
        omega
    | false =>
      simp only [hb] at h
      have := bound_lt h
      split
      · rename_i hq; have := Nat.le_of_ble_eq_true hq; omega
      · omega

/-- what can't be reached is let go -/
theorem gc_sound {ids : List Nat} {w : World} {g : Gh} {H H' : List Blk} (hs : Sim E w g H) (h : gc ids H = some H') :
    ∃ g', g'.imm = g.imm ∧ (∀ id, has ids id = true → g'.own id = g.own id) ∧ Sim E w g' H' ∧ Step w g H w g' H' := by
  unfold gc at h
  split at h
  · rename_i hc
    simp only [Option.some.injEq] at h
    subst h
    let g' : Gh := ⟨g.imm, fun id => if id < bound ids then g.own id else []⟩
    have hget : ∀ (id : Nat) (B : Blk), ((killDead ids 0 H).take (bound ids))[id]? = some B → B.live = true → has ids id = true ∧ H[id]? = some B ∧ g'.own id = g.own id := by
      intro id B hid hl
      rw [List.getElem?_take] at hid
      split at hid
      · rename_i hlt
        rw [killDead_get, Option.map_eq_some_iff] at hid
        obtain ⟨B0, q1, q2⟩ := hid
        rw [Nat.zero_add] at q2
        cases hh : has ids id with
        | true => rw [hh, if_pos rfl] at q2; subst q2; exact ⟨rfl, q1, by simp only [g', if_pos hlt]⟩
        | false => rw [hh] at q2; simp at q2; subst q2; simp [Blk.live] at hl
      · simp at hid
    have hown : ∀ b, Owned g' ((killDead ids 0 H).take (bound ids)) b → Owned g H b := by
      rintro b ⟨id, B, q1, q2, r, q3, q4⟩
      obtain ⟨_, k2, k3⟩ := hget id B q1 q2
      rw [k3] at q3
      exact ⟨id, B, k2, q2, r, q3, q4⟩
    refine ⟨g', rfl, fun id hid => by simp only [g', if_pos (bound_lt hid)], ⟨?_, ?_, fun b hb => hs.imm b (hown b hb), hs.lt, ?_, hs.glob⟩, ⟨rfl, rfl, rfl, Nat.le_refl _, fun _ _ _ => rfl, fun _ h => h, fun _ h => .inl h, fun b hb => .inl (hown b hb)⟩⟩
    · intro id B hid
      cases hl : B.live with
      | false => cases B <;> simp [Blk.live] at hl; trivial
      | true =>
        obtain ⟨k1, k2, k3⟩ := hget id B hid hl
        have := BlkR.ren (g := g) (g' := g') (f := fun x => x) (id := id) (id' := id) rfl k3 (fun id' hid' => ?_) (hs.blk id B k2)
        · have e : B.ren (fun x => x) = B := by
            cases B with
            | dead => rfl
            | cells l ty => simp only [Blk.ren]; exact congrArg (Blk.cells · ty) ((List.map_congr_left fun a _ => A1.ren_id a).trans (List.map_id l))
            | vec _ _ _ _ => rfl
          rwa [e] at this
        · have hcl : B.inB ids = true := by
            have := (by simpa [closed] using hc : ∀ i ∈ ids, (H.getD i .dead).inB ids = true) id (has_mem k1)
            simpa [List.getD, k2] using this
          have hh : has ids id' = true := by
            cases B with
            | cells l =>
              simp only [Blk.inB, List.all_eq_true] at hcl
              simp only [Blk.ids, List.mem_flatMap] at hid'
              obtain ⟨a, ha1, ha2⟩ := hid'
              exact ids_of_inB (hcl a ha1) id' ha2
            | dead => simp [Blk.ids] at hid'
            | vec _ _ _ _ => simp [Blk.ids] at hid'
          simp only [g', if_pos (bound_lt hh)]
    · intro id B id' B' r r' a1 a2 a3 a4 a5 a6 a7
      obtain ⟨_, k2, k3⟩ := hget id B a1 a2
      obtain ⟨_, k2', k3'⟩ := hget id' B' a3 a4
      rw [k3] at a5; rw [k3'] at a6
      exact hs.dis id B id' B' r r' k2 a2 k2' a4 a5 a6 a7
    · intro id hid
      by_cases hlt : id < bound ids
      · simp only [g', if_pos hlt]
        refine hs.nil id ?_
        rw [List.length_take, killDead_len] at hid
        omega
      · simp only [g', if_neg hlt]
  · simp at h

theorem keepT_get (ks : List Nat) : ∀ (l : List AV) (k i : Nat), (keepT ks k l).getD i .undef = if has ks (k + i) then l.getD i .undef else .undef
  | [], k, i => by simp [keepT]
  | v :: l, k, 0 => by simp only [keepT, List.getD_cons_zero, Nat.add_zero]; cases has ks k <;> rfl
  | v :: l, k, i + 1 => by
    simp only [keepT, List.getD_cons_succ]
    rw [keepT_get ks l (k + 1) i, show k + 1 + i = k + (i + 1) by omega]

theorem keepT_len (ks : List Nat) : ∀ (l : List AV) (k : Nat), (keepT ks k l).length = l.length
  | [], _ => rfl
  | b :: l, k => by simp [keepT, keepT_len ks l]

/-- blocks numbered anew -/
theorem ren_sound {ids : List Nat} {w : World} {g : Gh} {H : List Blk} (hs : Sim E w g H) (hcl : closed ids H = true) (hd : distinct ids = true) (hlt : ∀ i ∈ ids, i < H.length) :
    ∃ g' : Gh, g'.imm = g.imm ∧ (∀ j id, ids[j]? = some id → g'.own j = g.own id) ∧ Sim E w g' (ids.map fun i => (H.getD i .dead).ren (idx ids)) ∧ Step w g H w g' (ids.map fun i => (H.getD i .dead).ren (idx ids)) := by
  let gc : Gh := ⟨g.imm, fun j => match ids[j]? with | some id => g.own id | none => []⟩
  have hgc : ∀ {j id : Nat}, ids[j]? = some id → gc.own j = g.own id := fun h => by simp only [gc, h]
  have hgci : ∀ {id : Nat}, has ids id = true → gc.own (idx ids id) = g.own id := fun h => hgc (idx_get h)
  have hHc : ∀ (j : Nat) (B : Blk), (ids.map fun i => (H.getD i .dead).ren (idx ids))[j]? = some B → ∃ id B0, ids[j]? = some id ∧ H[id]? = some B0 ∧ B = B0.ren (idx ids) ∧ B0.inB ids = true := by
    intro j B hj
    simp only [List.getElem?_map, Option.map_eq_some_iff] at hj
    obtain ⟨id, h1, rfl⟩ := hj
    have hm := List.mem_of_getElem? h1
    have hl := hlt id hm
    refine ⟨id, H[id], h1, List.getElem?_eq_getElem hl, ?_, ?_⟩
    · simp [List.getD, List.getElem?_eq_getElem hl]
    · have := (by simpa [closed] using hcl : ∀ i ∈ ids, (H.getD i .dead).inB ids = true) id hm
      simpa [List.getD, List.getElem?_eq_getElem hl] using this
  have hownc' : ∀ b, Owned gc (ids.map fun i => (H.getD i .dead).ren (idx ids)) b → Owned g H b := by
    rintro b ⟨j, B, q1, q2, r, q3, q4⟩
    obtain ⟨id, B0, p1, p2, rfl, _⟩ := hHc j B q1
    rw [hgc p1] at q3
    rw [Blk.live_ren] at q2
    exact ⟨id, B0, p2, q2, r, q3, q4⟩
  refine ⟨gc, rfl, fun j id h => hgc h, ⟨?_, ?_, fun b hb => hs.imm b (hownc' b hb), hs.lt, fun j hj => ?_, hs.glob⟩, ⟨rfl, rfl, rfl, Nat.le_refl _, fun _ _ _ => rfl, fun _ h => h, fun _ h => .inl h, fun b hb => .inl (hownc' b hb)⟩⟩
  · intro j B hj
    obtain ⟨id, B0, p1, p2, rfl, p4⟩ := hHc j B hj
    refine BlkR.ren (g := g) (g' := gc) rfl (hgc p1) (fun id' hid' => hgci ?_) (hs.blk id B0 p2)
    cases B0 with
    | cells l ot =>
      simp only [Blk.inB, List.all_eq_true] at p4
      simp only [Blk.ids, List.mem_flatMap] at hid'
      obtain ⟨a, ha1, ha2⟩ := hid'
      exact ids_of_inB (p4 a ha1) id' ha2
    | dead => simp [Blk.ids] at hid'
    | vec _ _ _ _ => simp [Blk.ids] at hid'
  · intro j B j' B' r r' a1 a2 a3 a4 a5 a6 a7
    obtain ⟨id, B0, p1, p2, rfl, _⟩ := hHc j B a1
    obtain ⟨id', B0', p1', p2', rfl, _⟩ := hHc j' B' a3
    rw [hgc p1] at a5; rw [hgc p1'] at a6
    rw [Blk.live_ren] at a2 a4
    obtain ⟨e1, e2⟩ := hs.dis id B0 id' B0' r r' p2 a2 p2' a4 a5 a6 a7
    subst e1
    exact ⟨by rw [← idx_of_get hd p1, ← idx_of_get hd p1'], e2⟩
  · have : ids[j]? = none := List.getElem?_eq_none (by simpa using hj)
    simp only [gc, this]

theorem nrm_sound {h : Hint} {l : Nat} {w0 : World} {g0 : Gh} {H0 : List Blk} {fr : Fr} {a : Act} {w : World} {g : Gh} (hinc : H0.length ≤ h.inc) (h0 : ∀ id, H0.length ≤ id → g0.own id = []) (hs : St E w0 g0 H0 fr a w g) : ∃ g', St E w0 g0 H0 (nrm h l fr) a w g' := by
  unfold nrm
  split
  · exact ⟨g, hs⟩
  · rename_i ks _
    have hk : FrR w g (keepT ks 0 fr.tmps) a := by
      refine ⟨by rw [keepT_len]; exact hs.slots.1, fun t => ?_⟩
      rw [keepT_get]
      split
      · exact hs.slots.2 t
      · trivial
    simp only
    split
    · unfold cmpFr
      generalize reach 200 fr.heap (List.range h.inc ++ (keepT ks 0 fr.tmps).flatMap AV.ids) [] = ids0
      split
      · rename_i hb
        simp only [Bool.and_eq_true, List.all_eq_true] at hb
        obtain ⟨⟨⟨hb1, hb2⟩, hd⟩, hb4⟩ := hb
        obtain ⟨g', k1, k2, k3, k4⟩ := ren_sound hs.sim hb2 hd (fun i hi => by simpa using hb4 i hi)
        refine ⟨g', k3, ⟨by rw [List.length_map]; exact hk.1, fun t => ?_⟩, hs.step.trans k4, hs.defers, fun id r hr => ?_⟩
        · by_cases ht : t < (keepT ks 0 fr.tmps).length
          · have h2 := hk.2 t
            simp only [List.getD, List.getElem?_map, List.getElem?_eq_getElem ht, Option.map_some, Option.getD_some] at h2 ⊢
            refine AVR.ren (g := g) (g' := g') k1 (fun id hid => ?_) h2
            have hm := hb1 _ (List.getElem_mem ht)
            simp only [AV.inB, List.all_eq_true] at hm
            exact k2 _ _ (idx_get (hm id hid))
          · simp only [List.getD, List.getElem?_map, List.getElem?_eq_none (Nat.le_of_not_lt ht), Option.map_none, Option.getD_none]; trivial
        · by_cases hlt : id < H0.length
          · obtain ⟨r', q1, q2⟩ := hs.own id r hr
            have hid : (cmpId h.inc ids0)[id]? = some id := by
              unfold cmpId
              rw [List.getElem?_append_left (by simp; omega), List.getElem?_range (by omega)]
            exact ⟨r', by rw [k2 id id hid]; exact q1, q2⟩
          · rw [h0 id (by omega)] at hr; simp at hr
      · exact ⟨g, hs.sim, hk, hs.step, hs.defers, hs.own⟩
    split
    · rename_i hp hb hg
      obtain ⟨g', k1, k2, k3, k4⟩ := gc_sound hs.sim hg
      simp only [Bool.and_eq_true] at hb
      obtain ⟨hb, hbi⟩ := hb
      refine ⟨g', k3, ⟨hk.1, fun t => ?_⟩, hs.step.trans k4, hs.defers, fun id r hr => ?_⟩
      rotate_left
      · by_cases hlt : id < H0.length
        · obtain ⟨r', q1, q2⟩ := hs.own id r hr
          exact ⟨r', by rw [k2 id ((List.all_eq_true.1 hbi) id (by simp; omega))]; exact q1, q2⟩
        · rw [h0 id (by omega)] at hr; simp at hr
      have h2 := hk.2 t
      by_cases ht : t < (keepT ks 0 fr.tmps).length
      · refine AVR.ids_keep k1 k2 ?_ h2
        exact List.all_eq_true.1 hb _ (by simp [List.getD, List.getElem?_eq_getElem ht])
      · simp only [List.getD, List.getElem?_eq_none (Nat.le_of_not_lt ht), Option.getD_none]; trivial
    · exact ⟨g, hs.sim, hk, hs.step, hs.defers, hs.own⟩

/-- a code does what the abstract one says -/
theorem aw_wp (hT : TyOk P E) (hE : EqOk P E) (hm : P.follows .mixedOrders = true) {hh : Hint} {w0 : World} {g0 : Gh} {H0 : List Blk} (hinc : H0.length ≤ hh.inc) (h0 : ∀ id, H0.length ≤ id → g0.own id = []) :
    ∀ (c : Code) (fr : Fr) (a : Act) (w : World) (g : Gh) (K : Exit → Fr → Prop) (Q : Exit → Act → World → Prop), drawsOk E hh c = true → St E w0 g0 H0 fr a w g → aw E hh (Snd P E) c fr K →
      (∀ e fr' a' w' g', St E w0 g0 H0 fr' a' w' g' → K e fr' → Q e a' w') → c.wp P Q a w := by
  intro c
  induction c with
  | skip => intro fr a w g K Q _ hs h hq; exact wp_skip (hq _ _ _ _ _ hs h)
  | label l => intro fr a w g K Q _ hs h hq; exact wp_label (hq _ _ _ _ _ hs h)
  | region id ops d =>
    intro fr a w g K Q hd hs h hq
    cases d with
    | false => exact wp_region_list (aOps_wp hT hE (fun fr' a' w' g' hs' hk => hq _ _ _ _ _ hs' hk) ops.toList fr a w g hs h)
    | true => exact region_draw hT hE hm hd (fun fr' a' w' g' hs' hk => hq _ _ _ _ _ hs' hk) hs h
  | seq x y ihx ihy =>
    intro fr a w g K Q hd hs h hq
    simp only [drawsOk, Bool.and_eq_true] at hd
    refine wp_seq (ihx fr a w g _ _ hd.1 hs h (fun e fr' a' w' g' hs' hk => ?_))
    cases e with
    | normal => exact ihy fr' a' w' g' K Q hd.2 hs' hk hq
    | _ => exact hq _ _ _ _ _ hs' hk
  | cond c x y ihx ihy =>
    intro fr a w g K Q hd hs h hq
    simp only [drawsOk, Bool.and_eq_true] at hd
    have hv := hs.slots.ev hs.sim c
    change aCond _ _ _ _ _ at h
    unfold aCond at h
    split at h
    · rename_i he
      rw [he] at hv
      exact wp_cond_true (rd_bool hv) (ihx fr a w g K Q hd.1 hs h hq)
    · rename_i he
      rw [he] at hv
      exact wp_cond_false (rd_bool hv) (ihy fr a w g K Q hd.2 hs h hq)
    · exact h.elim
  | block id b ih =>
    intro fr a w g K Q hd hs h hq
    refine wp_block (ih fr a w g _ _ hd hs h (fun e fr' a' w' g' hs' hk => ?_))
    cases e with
    | exit i =>
      simp only at hk
      simp only [Exit.inBlock]
      split at hk
      · rename_i hb; rw [if_pos (Nat.eq_of_beq_eq_true hb)]; exact hq _ _ _ _ _ hs' hk
      · rename_i hb
        rw [if_neg (fun e => by subst e; simp at hb)]; exact hq _ _ _ _ _ hs' hk
    | _ => exact hq _ _ _ _ _ hs' hk
  | loop b ih =>
    intro fr a w g K Q hd hs h hq
    have h' : ALoop (aw E hh (Snd P E) b) (nrm hh (lid b)) K (nrm hh (lid b) fr) := by
      have : frK (nrm hh (lid b) fr) (ALoop (aw E hh (Snd P E) b) (nrm hh (lid b)) K) := h
      rwa [frK_eq] at this
    obtain ⟨g', hs'⟩ := nrm_sound (h := hh) (l := lid b) hinc h0 hs
    have key := h' (fun f => ∀ a w g, St E w0 g0 H0 f a w g → ∀ (fb : Frame) (k : List Item) (cs : List Frame), ∃ e a' w', Q e a' w' ∧ Arrives P (lone (fb.at a (.code b :: .inLoop b :: k)) cs w) fb k cs e a' w') (fun f hf a w g hs fb k cs => by
      have hb := ih f a w g _ (Exit.then (fun a' w' => ∃ g'', ∃ f', St E w0 g0 H0 f' a' w' g'' ∧ ∀ (fb : Frame) (k : List Item) (cs : List Frame), ∃ e a2 w2, Q e a2 w2 ∧ Arrives P (lone (fb.at a' (.code b :: .inLoop b :: k)) cs w') fb k cs e a2 w2) Q) hd hs hf (fun e fr' a' w' g' hs' hk => by
        cases e with
        | normal =>
          simp only [frK_eq] at hk
          obtain ⟨g2, hs2⟩ := nrm_sound (h := hh) (l := lid b) hinc h0 hs'
          exact ⟨g2, _, hs2, hk a' w' g2 hs2⟩
        | _ => exact hq _ _ _ _ _ hs' hk)
      obtain ⟨e, a', w', hQ, harr⟩ := hb fb (.inLoop b :: k) cs
      cases e with
      | normal =>
        obtain ⟨g2, f2, hs2, hgo⟩ := hQ
        obtain ⟨e2, a2, w2, hQ2, harr2⟩ := hgo fb k cs
        exact ⟨e2, a2, w2, hQ2, .of_steps (Steps.trans harr (.one step_inLoop)) harr2⟩
      | exit id => exact ⟨_, a', w', hQ, .pass (x := .inLoop b) rfl (fun _ _ => .inl (by simp)) harr⟩
      | goto l => exact ⟨_, a', w', hQ, .pass (x := .inLoop b) rfl (fun _ _ => .inl (by simp)) harr⟩
      | ret => exact ⟨_, a', w', hQ, .pass (x := .inLoop b) rfl (fun _ _ => .inl (by simp)) harr⟩
      | panic ch => exact ⟨_, a', w', hQ, .pass (x := .inLoop b) rfl (fun _ _ => .inl (by simp)) harr⟩
      | outgrown => exact ⟨_, a', w', hQ, .pass (x := .inLoop b) rfl (fun _ _ => .inl (by simp)) harr⟩)
    intro fb k cs
    obtain ⟨e, a', w', hQ, harr⟩ := key a w g' hs' fb k cs
    exact ⟨e, a', w', hQ, .of_steps (.one step_loop) harr⟩
  | exit i => intro fr a w g K Q _ hs h hq; exact wp_exit (hq _ _ _ _ _ hs h)
  | scope b ih =>
    intro fr a w g K Q hd hs h hq
    refine wp_scope_straight (ih fr a w g _ _ hd hs h (fun e fr' a' w' g' hs' hk => ?_))
    cases e with
    | goto l => exact hk
    | _ => exact hq _ _ _ _ _ hs' hk
  | ret => intro fr a w g K Q _ hs h hq; exact wp_ret (hq _ _ _ _ _ hs h)
  | goto l => intro fr a w g K Q _ hs h hq; exact h.elim
  | rangeFunc f ps as b iha ihb => intro fr a w g K Q _ hs h hq; exact h.elim
  | refuse why => intro fr a w g K Q _ hs h hq; exact h.elim

/-! ### a whole call -/

def resSem (tmps : Array Value) : ResultVar → Sem Value
  | .tmp t => pure (tmps.getD t undef)
  | .cell x t => do loadVar t (← asAddr (tmps.getD x undef))

theorem resOf_sound (hT : TyOk P E) {w : World} {g : Gh} {tmps : List AV} {H : List Blk} {a : Act} (hs : Sim E w g H) (hf : FrR w g tmps a) : ∀ (rs : List ResultVar) (K : List AV → Prop), resOf E tmps H rs K →
    ∃ vs ws, K vs ∧ (rs.mapM (resSem a.tmps)).run P w = .ok ws w ∧ L2 (AVR w g) vs ws
  | [], K, h => ⟨[], [], h, by simp, .nil⟩
  | .tmp t :: rs, K, h => by
    obtain ⟨vs, ws, h1, h2, h3⟩ := resOf_sound hT hs hf rs _ h
    refine ⟨_, a.tmps.getD t undef :: ws, h1, ?_, .cons (hf.2 t) h3⟩
    have hr : (resSem a.tmps (.tmp t)).run P w = .ok (a.tmps.getD t undef) w := rfl
    rw [List.mapM_cons]
    simp only [Sem.run_bind, Sem.run_pure, hr, Result.andThen, h2]
  | .cell x t :: rs, K, h => by
    obtain ⟨av, u, ad, k1, k2, k3, k4⟩ := aLoad_sound (P := P) hT hs (hf.2 x) h
    obtain ⟨vs, ws, h1, h2, h3⟩ := resOf_sound hT hs hf rs _ k1
    refine ⟨_, u :: ws, h1, ?_, .cons k4 h3⟩
    have hr : (resSem a.tmps (.cell x t)).run P w = .ok u w := by
      simp only [resSem, k2, asAddr, Sem.run_bind, Sem.run_pure, Result.andThen, k3]
    rw [List.mapM_cons]
    simp only [Sem.run_bind, Sem.run_pure, hr, Result.andThen, h2]

theorem retK_sound {m : Nat} {r : AV} {v : Value} {w0 w : World} {g0 g : Gh} {H0 H : List Blk} {Q : AV → List Blk → Prop} (hm : m = H0.length) (h0 : ∀ id, H0.length ≤ id → g0.own id = []) (hs : Sim E w g H) (st : Step w0 g0 H0 w g H) (ol : OwnLe g0 g) (hr : AVR w g r v) (h : retK m r H Q) :
    ∃ g' H', Sim E w g' H' ∧ Step w0 g0 H0 w g' H' ∧ OwnLe g0 g' ∧ H0.length ≤ H'.length ∧ AVR w g' r v ∧ Q r H' := by
  unfold retK at h
  split at h
  · rename_i hp hret
    rw [avK_eq, blksK_eq] at h
    unfold retHeap at hret
    simp only at hret
    split at hret
    · rename_i hb
      simp only [Bool.and_eq_true] at hb
      obtain ⟨⟨hb1, hb2⟩, hb3⟩ := hb
      have hall := List.all_eq_true.1 hb2
      have hlen : m ≤ H.length := Nat.le_of_ble_eq_true hb3
      obtain ⟨g', k1, k2, k3, k4⟩ := gc_sound hs hret
      refine ⟨g', hp, k3, st.trans k4, fun id q hq => ?_, ?_, AVR.ids_keep k1 k2 hb1 hr, h⟩
      · by_cases hlt : id < H0.length
        · obtain ⟨q', q1, q2⟩ := ol id q hq
          exact ⟨q', by rw [k2 id (hall id (by simp; omega))]; exact q1, q2⟩
        · rw [h0 id (by omega)] at hq; simp at hq
      · rcases Nat.eq_zero_or_pos m with h' | h'
        · omega
        · have hbd := bound_lt (hall (m - 1) (by simp; omega))
          unfold gc at hret
          split at hret
          · simp only [Option.some.injEq] at hret
            subst hret
            rw [List.length_take, killDead_len]
            omega
          · simp at hret
    · simp at hret
  · exact h.elim

theorem retC_sound {m : Nat} {r : AV} {v : Value} {w0 w : World} {g0 g : Gh} {H0 H : List Blk} {Q : AV → List Blk → Prop} (hm : m = H0.length) (h0 : ∀ id, H0.length ≤ id → g0.own id = []) (hs : Sim E w g H) (st : Step w0 g0 H0 w g H) (ol : OwnLe g0 g) (hr : AVR w g r v) (h : retC m r H Q) :
    ∃ g' H' r', Sim E w g' H' ∧ Step w0 g0 H0 w g' H' ∧ OwnLe g0 g' ∧ H0.length ≤ H'.length ∧ AVR w g' r' v ∧ Q r' H' := by
  unfold retC at h
  rw [natsK_eq] at h
  generalize reach 200 H (List.range m ++ r.ids) [] = ids0 at h
  split at h
  · rename_i hb
    rw [avK_eq, blksK_eq] at h
    simp only [Bool.and_eq_true, List.all_eq_true] at hb
    obtain ⟨⟨⟨hb1, hb2⟩, hd⟩, hb4⟩ := hb
    obtain ⟨g', k1, k2, k3, k4⟩ := ren_sound hs hb2 hd (fun i hi => by simpa using hb4 i hi)
    refine ⟨g', _, _, k3, st.trans k4, fun id q hq => ?_, ?_, ?_, h⟩
    · by_cases hlt : id < H0.length
      · obtain ⟨q', q1, q2⟩ := ol id q hq
        have hid : (cmpId m ids0)[id]? = some id := by
          unfold cmpId
          rw [List.getElem?_append_left (by simp; omega), List.getElem?_range (by omega)]
        exact ⟨q', by rw [k2 id id hid]; exact q1, q2⟩
      · rw [h0 id (by omega)] at hq; simp at hq
    · simp only [List.length_map, cmpId, List.length_append, List.length_range]; omega
    · refine AVR.ren (g := g) (g' := g') k1 (fun id hid => ?_) hr
      simp only [AV.inB, List.all_eq_true] at hb1
      exact k2 _ _ (idx_get (hb1 id hid))
  · exact h.elim

theorem retQ_sound {c : Bool} {m : Nat} {r : AV} {v : Value} {w0 w : World} {g0 g : Gh} {H0 H : List Blk} {Q : AV → List Blk → Prop} (hm : m = H0.length) (h0 : ∀ id, H0.length ≤ id → g0.own id = []) (hs : Sim E w g H) (st : Step w0 g0 H0 w g H) (ol : OwnLe g0 g) (hr : AVR w g r v) (h : retQ c m r H Q) :
    ∃ g' H' r', Sim E w g' H' ∧ Step w0 g0 H0 w g' H' ∧ OwnLe g0 g' ∧ H0.length ≤ H'.length ∧ AVR w g' r' v ∧ Q r' H' := by
  cases c with
  | true => exact retC_sound hm h0 hs st ol hr h
  | false =>
    obtain ⟨g', H', q⟩ := retK_sound hm h0 hs st ol hr h
    exact ⟨g', H', r, q⟩

theorem flat_to0 {w : World} {g : Gh} {x : AV} {v : Value} (hx : x.flat = true) (h : AVR w g x v) : AVR0 w g x v := h.to0 (fun l e => by subst e; simp [AV.flat] at hx)

theorem aRet_sound (hT : TyOk P E) {hh : Hint} {fn : Func} {w0 : World} {g0 : Gh} {H0 : List Blk} {fr : Fr} {a : Act} {w : World} {g : Gh} {Q : AV → List Blk → Prop} (h0 : ∀ id, H0.length ≤ id → g0.own id = []) (hs : St E w0 g0 H0 fr a w g) (h : aRet E hh fn H0.length fr Q) :
    ∃ v, (results fn a.tmps).run P w = .ok v w ∧ ∃ g' r H', Sim E w g' H' ∧ Step w0 g0 H0 w g' H' ∧ OwnLe g0 g' ∧ H0.length ≤ H'.length ∧ AVR w g' r v ∧ Q r H' := by
  unfold aRet at h
  obtain ⟨vs, ws, h1, h2, h3⟩ := resOf_sound (P := P) hT hs.sim hs.slots _ _ h
  split at h1
  · rename_i hflat
    let v : Value := if h : ws.toArray.size = 1 then ws.toArray[0] else .tuple ws.toArray
    have hrun : (results fn a.tmps).run P w = .ok v w := by
      have hmm : (fn.results.mapM (resSem a.tmps)).run P w = .ok ws.toArray w := by
        rw [Array.mapM_eq_mapM_toList, Sem.run_map, h2]; rfl
      have he : results fn a.tmps = (do let vs ← fn.results.mapM (resSem a.tmps); pure (if h : vs.size = 1 then vs[0] else .tuple vs)) := by
        unfold results
        congr 1
      rw [he, Sem.run_bind, hmm]
      rfl
    have hv : AVR w g (tupOf vs) v := by
      rcases vs with _ | ⟨x, _ | ⟨y, vs⟩⟩
      · have := h3.nil_inv; subst this; exact ⟨#[], rfl, .nil⟩
      · obtain ⟨b, m, rfl, hb, ht⟩ := h3.uncons
        have := ht.nil_inv; subst this
        exact hb
      · obtain ⟨b, m, rfl, hb, ht⟩ := h3.uncons
        obtain ⟨b', m', rfl, hb', ht'⟩ := ht.uncons
        refine ⟨(b :: b' :: m').toArray, by simp [v], ?_⟩
        simp only [List.all_eq_true] at hflat
        exact h3.mem (fun x' v' hm hr => flat_to0 (hflat x' hm) hr)
    refine ⟨v, hrun, ?_⟩
    split at h1
    · split at h1
      · rename_i r hp hfz
        obtain ⟨g', k1, k2, k3, k4, k5⟩ := frzR_sound hs.sim hv hfz
        obtain ⟨g2, H', r', q1, q2, q3, q4, q5, q6⟩ := retQ_sound rfl h0 k2 (hs.step.trans k3) (hs.own.trans (.of_eq k1)) k4 h1
        exact ⟨g2, r', H', q1, q2, q3, q4, q5, q6⟩
      · exact h1.elim
    · obtain ⟨g2, H', r', q1, q2, q3, q4, q5, q6⟩ := retQ_sound rfl h0 hs.sim hs.step hs.own hv h1
      exact ⟨g2, r', H', q1, q2, q3, q4, q5, q6⟩
  · exact h1.elim

def bodyOk (E : Env) (hh : Hint) (fn : Func) : Bool := match fn.body with | some c => drawsOk E hh c | none => false

/-- A CONTRACT FROM ITS BODY. -/
theorem Snd.intro (hT : TyOk P E) (hE : EqOk P E) (hm : P.follows .mixedOrders = true) (hh : Hint) {f : Nat} {fn : Func} (hf : P.funcs[f]? = some fn) (hn : (fn.name == "runtime.NumGoroutine") = false) (hd : bodyOk E hh fn = true)
    {args : List AV} {H : List Blk} {Q : AV → List Blk → Prop} (hinc : H.length ≤ hh.inc) (h : aBody E hh (Snd P E) fn args H Q) : Snd P E f args H Q := by
  intro w g vs hs ha
  unfold bodyOk at hd
  unfold aBody at h
  cases hb : fn.body with
  | none => rw [hb] at h; exact h.elim
  | some c =>
    simp only [hb] at h hd
    rw [frK_eq] at h
    refine ⟨⟨fn, hf, hn, by rw [hb]; rfl⟩, calls_of_wp hf hb ?_⟩
    have hsz : args.length = vs.size := by have := ha.1; simpa using this
    have h0 : St E w g H ⟨args ++ List.replicate (fn.ntmps - args.length) .hole, H⟩ { tmps := vs ++ Array.replicate (fn.ntmps - vs.size) undef, defers := [] } w g := by
      refine ⟨hs, ⟨by simp [hsz], fun t => ?_⟩, .refl _ _ _, rfl, .refl _⟩
      simp only [List.getD, List.getElem?_append, Array.getD_eq_getD_getElem?, Array.getElem?_append, List.getElem?_replicate, Array.getElem?_replicate, hsz]
      by_cases ht : t < vs.size
      · rw [if_pos ht, if_pos ht]
        obtain ⟨b, h1, h2⟩ := ha.2 t args[t] (List.getElem?_eq_getElem (by omega))
        have : vs[t]? = some b := by simpa using h1
        rw [List.getElem?_eq_getElem (by omega), this]
        exact h2
      · rw [if_neg ht, if_neg ht]
        split
        · exact (rfl : undef = undef)
        · trivial
    refine aw_wp hT hE hm hinc hs.nil c _ _ w g _ _ hd h0 h (fun e fr' a' w' g' hs' hk => ?_)
    have fin : aRet E hh fn H.length fr' Q → a'.defers = [] ∧ ∃ v, (results fn a'.tmps).run P w' = .ok v w' ∧ (∃ v_1 g'_1 r H', (Ending.returned v) = .returned v_1 ∧ Sim E w' g'_1 H' ∧ Step w g H w' g'_1 H' ∧ OwnLe g g'_1 ∧ H.length ≤ H'.length ∧ AVR w' g'_1 r v_1 ∧ Q r H') := by
      intro hr
      obtain ⟨v, k1, g2, r, H', k2, k3, k4, k5, k6, k7⟩ := aRet_sound (P := P) hT hs.nil hs' hr
      exact ⟨hs'.defers, v, k1, v, g2, r, H', rfl, k2, k3, k4, k5, k6, k7⟩
    cases e with
    | normal => exact fin hk
    | ret => exact fin hk
    | _ => exact hk.elim

end
end Go.Abs

namespace Go.Abs
open Go

theorem tyOk_of {P : Program} {E : Env} (hf : E.fall = tdOf P) (h : E.ty = (List.range P.types.size).map (tdOf P)) : TyOk P E := by
  intro t
  unfold Env.td
  rw [h, hf]
  by_cases ht : t < P.types.size
  · simp [ht]
  · simp [ht]

end Go.Abs
#print axioms Go.Abs.Snd.intro

namespace Go.Abs
open Go
/-- a region's operations in two parts -/
theorem aOps_cut {E : Env} {h : Hint} {S : Spec} {d : Bool} {ops : List Oper} {K : Fr → Prop} : ∀ (n : Nat) (l : List Oper),
    (fun fr => aOps E h S d ops l fr K) = fun fr => aOps E h S d ops (l.take n) fr (fun fr => aOps E h S d ops (l.drop n) fr K)
  | 0, l => rfl
  | n + 1, [] => rfl
  | n + 1, o :: l => by
    funext fr
    rw [List.take_succ_cons, List.drop_succ_cons]
    rw [aOps_cons, aOps_cons]
    rw [aOps_cut (d := d) (ops := ops) (K := K) n l]
/-- the first operations alone; what follows is left as it is -/
theorem aOps_hide {E : Env} {h : Hint} {S : Spec} {d : Bool} {ops : List Oper} {K : Fr → Prop} (n : Nat) {l : List Oper} {fr : Fr}
    (hh : ∀ KK : Fr → Prop, (∀ fr, aOps E h S d ops (l.drop n) fr K → KK fr) → aOps E h S d ops (l.take n) fr KK) : aOps E h S d ops l fr K := by
  have := congrFun (aOps_cut (E := E) (h := h) (S := S) (d := d) (ops := ops) (K := K) n l) fr
  rw [show aOps E h S d ops l fr K = _ from this]
  exact hh _ fun _ h => h
end Go.Abs
