/- A part of the proof of a seat of parts: AskPure, ShowPure, SidePure, PrPure, PrPure2, PrPure3, RoundPure, AwPart. -/
import Derived.KernelRfl
import Derived.Test.YtmfilaagpobmbaaGreatDoorS3
import Derived.Test.YtmfilaagpobmbaaGreatDoorS4
set_option linter.all false
/- What is asked: keys and prefixes. -/
namespace Go.Abs
open Go
abbrev UP := ByteArray × Int
def uv (l : List UP) : List (List IV) := l.map fun p => [.str p.1, .int .i64 p.2]
theorem uv_len (l : List UP) : (uv l).length = l.length := by simp [uv]
theorem uv_get (l : List UP) (i : Nat) (p : UP) (h : l[i]? = some p) : (uv l)[i]? = some [.str p.1, .int .i64 p.2] := by simp [uv, h]
theorem uv_app (l m : List UP) : uv l ++ uv m = uv (l ++ m) := by simp [uv]
def okK (k : ByteArray) : Bool := decide (k.size = 32)
def okU (p : UP) : Bool := decide (p.1.size = 32) && (decide (0 ≤ p.2) && decide (p.2 ≤ 256))
/-- does a key lead to that side of a fork? -/
def leadK (a : Nat) (k : ByteArray) (s : Bool) (x : ByteArray) : Bool := decide (a ≤ common x k) && (bit x a == s)
def leadU (a : Nat) (k : ByteArray) (s : Bool) (p : UP) : Bool := decide (min (a : Int) p.2 ≤ (common p.1 k : Int)) && (decide (p.2 ≤ (a : Int)) || bit p.1 a == s)
/-- the two lists that a struct's slices hold -/
def shB (ks : List ByteArray) (us : List UP) (n m : Nat) (A B : List (List IV)) : List Blk := match ks, us with
  | [], [] => [.cells [.nils, .nils] none, .cells [.nils, .nils] none]
  | _ :: _, [] => [.cells [.nils, .nils] none, .cells [.sl 2 0 n, .nils] none, .vec 1 A true]
  | [], _ :: _ => [.cells [.nils, .nils] none, .cells [.nils, .sl 3 0 m] none, .dead, .vec 2 B true]
  | _ :: _, _ :: _ => [.cells [.nils, .nils] none, .cells [.sl 2 0 n, .sl 4 0 m] none, .vec 1 A true, .dead, .vec 2 B true]
theorem filt_step {α : Type} (p : α → Bool) (l : List α) (i : Nat) (x : α) (h : l[i]? = some x) : (l.drop i).filter p = (if p x = true then [x] else []) ++ (l.drop (i + 1)).filter p := by
  have h1 := List.drop_eq_getElem_cons (l := l) (i := i) (List.getElem?_eq_some_iff.1 h).1
  rw [h1, (List.getElem?_eq_some_iff.1 h).2, List.filter_cons]
  split <;> rfl
theorem one_all {n : Nat} {v : List IV} (hv : v.length = n) : ∀ e ∈ [v], e.length = n := by
  intro e he
  rcases List.mem_cons.1 he with rfl | h
  · exact hv
  · simp at h
end Go.Abs

/- What is shown of a tree. -/
namespace Go.Abs
open Go
def showN : T → List ByteArray → List UP → List Nd
  | .nil, _, _ => []
  | .leaf k v, _, _ => [.lst [.str k, .str v]]
  | .fork a k z o, ks, us => .lst [.num a, .str k] ::
      ((if (ks.filter (leadK a k false)).isEmpty && (us.filter (leadU a k false)).isEmpty then [.str z.hash] else showN z (ks.filter (leadK a k false)) (us.filter (leadU a k false))) ++
       (if (ks.filter (leadK a k true)).isEmpty && (us.filter (leadU a k true)).isEmpty then [.str o.hash] else showN o (ks.filter (leadK a k true)) (us.filter (leadU a k true))))
theorem showN_len : ∀ (t : T) (ks : List ByteArray) (us : List UP), t.good → t ≠ .nil → (showN t ks us).length + 1 ≤ 2 * t.pairs.length
  | .nil, _, _, _, h => absurd rfl h
  | .leaf k v, _, _, _, _ => Nat.le_refl _
  | .fork a k z o, ks, us, hg, _ => by
    have hz := hg.2.2.2.1
    have ho := hg.2.2.2.2.1
    have h1 := showN_len z (ks.filter (leadK a k false)) (us.filter (leadU a k false)) hz hg.2.1
    have h2 := showN_len o (ks.filter (leadK a k true)) (us.filter (leadU a k true)) ho hg.2.2.1
    have h3 := List.length_pos_iff.2 (T.pairs_ne hz hg.2.1)
    have h4 := List.length_pos_iff.2 (T.pairs_ne ho hg.2.2.1)
    rw [showN]
    simp only [List.length_cons, List.length_append, T.pairs]
    split <;> split <;> simp <;> omega
theorem Nd.deepL_app (l m : List Nd) : Nd.deepL (l ++ m) = max (Nd.deepL l) (Nd.deepL m) := by
  induction l with
  | nil => simp [Nd.deepL]
  | cons a l ih => simp only [List.cons_append, Nd.deepL, ih]; omega
theorem Nd.fineL_app (l m : List Nd) : Nd.fineL (l ++ m) ↔ Nd.fineL l ∧ Nd.fineL m := by
  induction l with
  | nil => simp [Nd.fineL]
  | cons a l ih => simp only [List.cons_append, Nd.fineL, ih]; exact and_assoc.symm
theorem showN_deep : ∀ (t : T) (ks : List ByteArray) (us : List UP), Nd.deepL (showN t ks us) ≤ 2
  | .nil, _, _ => by simp [showN, Nd.deepL]
  | .leaf k v, _, _ => by simp [showN, Nd.deepL, Nd.deep]
  | .fork a k z o, ks, us => by
    have h1 := showN_deep z (ks.filter (leadK a k false)) (us.filter (leadU a k false))
    have h2 := showN_deep o (ks.filter (leadK a k true)) (us.filter (leadU a k true))
    have h3 : ∀ h, Nd.deepL [.str h] ≤ 2 := fun h => by simp [Nd.deepL, Nd.deep]
    rw [showN, Nd.deepL, Nd.deepL_app]
    have h4 : (Nd.lst [.num a, .str k]).deep ≤ 2 := by simp [Nd.deepL, Nd.deep]
    have h5 := h3 z.hash
    have h6 := h3 o.hash
    split <;> split <;> omega
theorem showN_fine : ∀ (t : T) (ks : List ByteArray) (us : List UP), t.good → (∀ p ∈ t.pairs, p.2.size < 536870912) → Nd.fineL (showN t ks us)
  | .nil, _, _, _, _ => trivial
  | .leaf k v, _, _, hg, hv => by
    have h32 : k.size = 32 := hg.1
    have := hv (k, v) (by simp [T.pairs])
    simp only [showN, Nd.fineL, Nd.fine, and_true]
    refine ⟨by simp, by omega, this⟩
  | .fork a k z o, ks, us, hg, hv => by
    have hk := T.ksize hg
    have h1 := showN_fine z (ks.filter (leadK a k false)) (us.filter (leadU a k false)) hg.2.2.2.1 (fun p hp => hv p (by simp [T.pairs, hp]))
    have h2 := showN_fine o (ks.filter (leadK a k true)) (us.filter (leadU a k true)) hg.2.2.2.2.1 (fun p hp => hv p (by simp [T.pairs, hp]))
    have h3 : ∀ t : T, Nd.fineL [.str t.hash] := fun t => by have := t.hash_size; simp only [Nd.fineL, Nd.fine, and_true]; omega
    have ha := hg.1
    rw [showN, Nd.fineL, Nd.fineL_app]
    refine ⟨?_, ?_, ?_⟩
    · simp only [Nd.fine, Nd.fineL, and_true]
      exact ⟨by simp, by omega, by omega⟩
    · split
      · exact h3 z
      · exact h1
    · split
      · exact h3 o
      · exact h2
end Go.Abs

/- Where keys and prefixes lead, as the document says it. -/
namespace Go.Abs
open Go
def sK (a : Nat) (k : ByteArray) (s : Bool) (x : ByteArray) : Bool := okK x && (hasB a x k && (bit x a == s))
def sU (a : Nat) (k : ByteArray) (s : Bool) (p : UP) : Bool := okU p && (if (a : Int) < p.2 then hasB a p.1 k && (bit p.1 a == s) else hasB p.2.toNat k p.1)
def sideB (ks : List ByteArray) (us : List UP) (a : Nat) (k : ByteArray) (s : Bool) : Bool := ks.any (sK a k s) || us.any (sU a k s)
theorem any_take {α : Type} (f : α → Bool) (l : List α) (i : Nat) (x : α) (h : l[i]? = some x) : (l.take (i + 1)).any f = ((l.take i).any f || f x) := by
  rw [show l.take (i + 1) = l.take i ++ [x] by rw [List.take_succ, h]; rfl, List.any_append]; simp
end Go.Abs
namespace Go.Abs
open Go
def showR : T → List ByteArray → List UP → List Nd
  | .nil, _, _ => []
  | .leaf k v, _, _ => [.lst [.str k, .str v]]
  | .fork a k z o, ks, us => .lst [.num a, .str k] ::
      ((if sideB ks us a k false = true then showR z ks us else [.str z.hash]) ++ (if sideB ks us a k true = true then showR o ks us else [.str o.hash]))
theorem showR_len : ∀ (t : T) (ks : List ByteArray) (us : List UP), t.good → t ≠ .nil → (showR t ks us).length + 1 ≤ 2 * t.pairs.length
  | .nil, _, _, _, h => absurd rfl h
  | .leaf k v, _, _, _, _ => Nat.le_refl _
  | .fork a k z o, ks, us, hg, _ => by
    have hz := hg.2.2.2.1
    have ho := hg.2.2.2.2.1
    have h1 := showR_len z ks us hz hg.2.1
    have h2 := showR_len o ks us ho hg.2.2.1
    have h3 := List.length_pos_iff.2 (T.pairs_ne hz hg.2.1)
    have h4 := List.length_pos_iff.2 (T.pairs_ne ho hg.2.2.1)
    rw [showR]
    simp only [List.length_cons, List.length_append, T.pairs]
    split <;> split <;> simp <;> omega
end Go.Abs

/- A part of a tree: what is known of it is so in the tree. -/
namespace Go.Abs
open Go
def PT.last : PT → ByteArray
  | .stub _ => ⟨#[]⟩
  | .leaf k v => leafText k (sha v)
  | .fork a k z o => forkText a k z.hash o.hash
def PT.texts : PT → List ByteArray
  | .stub _ => []
  | .leaf k v => [v, leafText k (sha v)]
  | .fork a k z o => z.texts ++ o.texts ++ [forkText a k z.hash o.hash]
/-- a tree of which some nodes are told by their hash alone -/
def Pru : PT → T → Prop
  | .stub h, t => h = t.hash
  | .leaf k v, t => t = .leaf k v
  | .fork a k z o, t => match t with
    | .fork a' k' z' o' => a = a' ∧ k = k' ∧ Pru z z' ∧ Pru o o'
    | _ => False
theorem Pru.hash : ∀ {p : PT} {t : T}, Pru p t → p.hash = t.hash
  | .stub h, t, e => e
  | .leaf k v, t, e => by have e : t = .leaf k v := e; subst e; rfl
  | .fork a k z o, t, e => by
    cases t with
    | nil => exact e.elim
    | leaf k v => exact e.elim
    | fork a' k' z' o' =>
      obtain ⟨rfl, rfl, hz, ho⟩ := e
      show forkHash a k z.hash o.hash = forkHash a k z'.hash o'.hash
      rw [hz.hash, ho.hash]
theorem PT.last_hash : ∀ (p : PT), (∀ h, p ≠ .stub h) → p.hash = sha p.last
  | .stub h, e => absurd rfl (e h)
  | .leaf k v, _ => rfl
  | .fork a k z o, _ => rfl
theorem PT.last_mem : ∀ (p : PT), (∀ h, p ≠ .stub h) → p.last ∈ p.texts
  | .stub h, e => absurd rfl (e h)
  | .leaf k v, _ => by simp [PT.last, PT.texts]
  | .fork a k z o, _ => by simp [PT.last, PT.texts]
theorem pclash_last {p : PT} {t : T} (hp : ∀ h, p ≠ .stub h) (ht : t ≠ .nil) (h : p.hash = t.hash) (hne : p.last ≠ t.last) : Clash (t.texts ++ p.texts) :=
  .inr ⟨p.last, List.mem_append_right _ (p.last_mem hp), t.last, List.mem_append_left _ (T.last_mem t ht), hne, by rw [← T.last_hash t ht, ← p.last_hash hp, h]⟩
theorem pclash_nil {p : PT} (hp : ∀ h, p ≠ .stub h) (h : p.hash = zero32) (l : List ByteArray) : Clash (l ++ p.texts) :=
  .inl ⟨p.last, List.mem_append_right _ (p.last_mem hp), by rw [← p.last_hash hp, h]⟩
theorem PT.key_size {a : Nat} {k : ByteArray} {z o : PT} (h : (PT.fork a k z o).ok) : k.size = 32 := h.2.1
theorem Pru.of : ∀ {p : PT} {t : T}, p.ok → t.good → p.hash = t.hash → Pru p t ∨ Clash (t.texts ++ p.texts)
  | .stub h, t, _, _, e => .inl e
  | .leaf k v, .nil, _, _, e => .inr (pclash_nil (by simp) e _)
  | .fork a k z o, .nil, _, _, e => .inr (pclash_nil (by simp) e _)
  | .leaf k v, .leaf k' v', hp, ht, he => by
    by_cases e : (PT.leaf k v).last = (T.leaf k' v').last
    · have e : leafText k (sha v) = leafText k' (sha v') := e
      obtain ⟨e1, e2⟩ := app_inj e (by simp only [ByteArray.size_append]; rw [hp.1, ht.1])
      obtain ⟨_, e3⟩ := app_inj e1 rfl
      subst e3
      by_cases hv : v = v'
      · subst hv; exact .inl rfl
      · exact .inr (.inr ⟨v, by simp [PT.texts], v', by simp [T.texts], hv, e2⟩)
    · exact .inr (pclash_last (by simp) (by simp) he e)
  | .leaf k v, .fork a k' z o, hp, ht, he => by
    refine .inr (pclash_last (by simp) (by simp) he fun e => ?_)
    have e : (⟨#[0]⟩ ++ k) ++ sha v = (((⟨#[1]⟩ ++ mkB [a / 256 % 256, a % 256]) ++ k') ++ z.hash) ++ o.hash := e
    have := congrArg (fun x : ByteArray => x.data.toList[0]?) e
    simp [ByteArray.data_append] at this
  | .fork a k' z o, .leaf k v, hp, ht, he => by
    refine .inr (pclash_last (by simp) (by simp) he fun e => ?_)
    have e : (((⟨#[1]⟩ ++ mkB [a / 256 % 256, a % 256]) ++ k') ++ z.hash) ++ o.hash = (⟨#[0]⟩ ++ k) ++ sha v := e
    have := congrArg (fun x : ByteArray => x.data.toList[0]?) e
    simp [ByteArray.data_append] at this
  | .fork a k z o, .fork a' k' z' o', h, h', he => by
    by_cases e : (PT.fork a k z o).last = (T.fork a' k' z' o').last
    · have e : (((⟨#[1]⟩ ++ mkB [a / 256 % 256, a % 256]) ++ k) ++ z.hash) ++ o.hash = (((⟨#[1]⟩ ++ mkB [a' / 256 % 256, a' % 256]) ++ k') ++ z'.hash) ++ o'.hash := e
      have s1 := PT.key_size h
      have s2 := T.ksize h'
      have z1 := PT.hash_size h.2.2.2.1
      have z2 := PT.hash_size h.2.2.2.2
      have m1 := mkB_size [a / 256 % 256, a % 256]
      have m2 := mkB_size [a' / 256 % 256, a' % 256]
      obtain ⟨e1, eo⟩ := app_inj e (by simp only [ByteArray.size_append, T.hash_size, s1, s2, m1, m2, z1]; rfl)
      obtain ⟨e2, ez⟩ := app_inj e1 (by simp only [ByteArray.size_append, s1, s2, m1, m2]; rfl)
      obtain ⟨e3, ek⟩ := app_inj e2 (by simp only [ByteArray.size_append, m1, m2]; rfl)
      obtain ⟨_, ea⟩ := app_inj e3 rfl
      have ea : a = a' := by
        have := congrArg (fun x : ByteArray => byteN x 1) ea
        simp only [byteN_mkB _ _ (show ∀ n ∈ [a / 256 % 256, a % 256], n < 256 by intro n hn; simp at hn; omega), byteN_mkB _ _ (show ∀ n ∈ [a' / 256 % 256, a' % 256], n < 256 by intro n hn; simp at hn; omega)] at this
        have h1 := h.1
        have h1' := h'.1
        simp at this
        omega
      subst ea ek
      rcases Pru.of h.2.2.2.1 h'.2.2.2.1 ez with hz | hz
      · rcases Pru.of h.2.2.2.2 h'.2.2.2.2.1 eo with ho | ho
        · exact .inl ⟨rfl, rfl, hz, ho⟩
        · refine .inr (ho.mono fun x hx => ?_)
          simp only [T.texts, PT.texts, List.mem_append] at hx ⊢
          rcases hx with hx | hx
          · exact .inl (.inl (.inr hx))
          · exact .inr (.inl (.inr hx))
      · refine .inr (hz.mono fun x hx => ?_)
        simp only [T.texts, PT.texts, List.mem_append] at hx ⊢
        rcases hx with hx | hx
        · exact .inl (.inl (.inl hx))
        · exact .inr (.inl (.inl hx))
    · exact .inr (pclash_last (by simp) (by simp) he e)
/-- a key that parts from a fork's first bits isn't there -/
theorem get_parts {key : ByteArray} {a : Nat} {k : ByteArray} {z o : T} (h : (T.fork a k z o).good) (hc : common k key < a) : (T.fork a k z o).get key = none := by
  cases e : (T.fork a k z o).get key with
  | none => rfl
  | some v =>
    have hm := (T.get_iff h v).1 e
    have hag := T.fork_agree h (key, v) (by simpa [T.pairs] using hm)
    have ha := h.1
    have := (agree_iff (a := k) (b := key) (n := a) (by omega)).2 hag.symm
    omega
theorem Pru.get {key : ByteArray} : ∀ {p : PT} {t : T}, Pru p t → t.good → ∀ r, p.get key = some r → r = t.get key
  | .stub h, t, e, _, r, hr => by simp [PT.get] at hr
  | .leaf k v, t, e, _, r, hr => by
    have e : t = .leaf k v := e
    subst e
    simp only [PT.get, Option.some.injEq] at hr
    rw [← hr]; rfl
  | .fork a k z o, t, e, hg, r, hr => by
    cases t with
    | nil => exact e.elim
    | leaf k v => exact e.elim
    | fork a' k' z' o' =>
      obtain ⟨rfl, rfl, hz, ho⟩ := e
      rw [PT.get] at hr
      split at hr
      · rename_i hc
        simp only [Option.some.injEq] at hr
        rw [← hr, get_parts hg hc]
      · rw [T.get]
        split at hr
        · rename_i hb; rw [if_pos hb]; exact hz.get hg.2.2.2.1 r hr
        · rename_i hb; rw [if_neg hb]; exact ho.get hg.2.2.2.2.1 r hr
theorem Pru.all : ∀ {p : PT} {t : T}, Pru p t → ∀ l, p.all = some l → l = t.pairs
  | .stub h, t, e, l, hl => by simp [PT.all] at hl
  | .leaf k v, t, e, l, hl => by
    have e : t = .leaf k v := e
    subst e
    simp only [PT.all, Option.some.injEq] at hl
    rw [← hl]; rfl
  | .fork a k z o, t, e, l, hl => by
    cases t with
    | nil => exact e.elim
    | leaf k v => exact e.elim
    | fork a' k' z' o' =>
      obtain ⟨rfl, rfl, hz, ho⟩ := e
      rw [PT.all] at hl
      split at hl
      · simp at hl
      · rename_i l1 e1
        split at hl
        · simp at hl
        · rename_i l2 e2
          simp only [Option.some.injEq] at hl
          rw [← hl, hz.all _ e1, ho.all _ e2]; rfl
theorem Pru.under {key : ByteArray} {n : Nat} (hn : n ≤ 256) : ∀ {p : PT} {t : T}, Pru p t → t.good → ∀ l, p.under key n = some l → l = t.under key n
  | .stub h, t, e, _, l, hl => by simp [PT.under] at hl
  | .leaf k v, t, e, _, l, hl => by
    have e : t = .leaf k v := e
    subst e
    simp only [PT.under, Option.some.injEq] at hl
    rw [← hl]; rfl
  | .fork a k z o, t, e, hg, l, hl => by
    cases t with
    | nil => exact e.elim
    | leaf k v => exact e.elim
    | fork a' k' z' o' =>
      have e0 := e
      obtain ⟨rfl, rfl, hz, ho⟩ := e
      rw [PT.under] at hl
      rw [T.under]
      split at hl
      · rename_i hc
        simp only [Option.some.injEq] at hl
        rw [← hl]
        split
        · rename_i ha; rw [if_pos (by omega)]
        · rename_i ha; rw [if_pos (by omega)]
      · rename_i hc
        split at hl
        · rename_i hna
          rw [if_neg (by omega), if_neg (by omega)]
          exact Pru.all e0 l hl
        · rename_i hna
          rw [if_pos (by omega), if_neg (by omega)]
          split at hl
          · rename_i hb; rw [if_pos hb]; exact hz.under hn hg.2.2.2.1 l hl
          · rename_i hb; rw [if_neg hb]; exact ho.under hn hg.2.2.2.2.1 l hl
theorem Pru.beside {p : PT} {t : T} (h : Pru p t) (a : Nat) (key val : ByteArray) : Pru (besideP p a key val) (beside t a key val) := by
  unfold besideP Go.Abs.beside
  split
  · exact ⟨rfl, rfl, rfl, h⟩
  · exact ⟨rfl, rfl, h, rfl⟩
theorem Pru.put {key val : ByteArray} (hk : key.size = 32) : ∀ {p : PT} {t : T}, Pru p t → t.good → ∀ q, p.put key val = some q → Pru q (t.put key val).1
  | .stub h, t, e, _, q, hq => by simp [PT.put] at hq
  | .leaf k v, t, e, hg, q, hq => by
    have e : t = .leaf k v := e
    subst e
    have hc := common_lt hg.1 hk
    rw [PT.put] at hq
    rw [T.put]
    split at hq
    · rename_i h
      rw [if_neg (fun h' => (hc.1 h') h)]
      simp only [Option.some.injEq] at hq
      rw [← hq]; exact rfl
    · rename_i h
      rw [if_pos (hc.2 h)]
      simp only [Option.some.injEq] at hq
      rw [← hq]
      exact Pru.beside (p := .leaf k v) (t := .leaf k v) rfl _ _ _
  | .fork a k z o, t, e, hg, q, hq => by
    cases t with
    | nil => exact e.elim
    | leaf k v => exact e.elim
    | fork a' k' z' o' =>
      have e0 := e
      obtain ⟨rfl, rfl, hz, ho⟩ := e
      have hid := T.fork_idem hg
      rw [PT.put] at hq
      rw [T.put]
      split at hq
      · rename_i hc
        rw [if_pos hc]
        simp only [Option.some.injEq] at hq
        rw [← hq]
        exact Pru.beside e0 _ _ _
      · rename_i hc
        rw [if_neg hc]
        split at hq
        · rename_i hb
          rw [if_pos hb]
          split at hq
          · simp at hq
          · rename_i z2 ez
            simp only [Option.some.injEq] at hq
            rw [← hq]
            exact ⟨rfl, hid.symm, hz.put hk hg.2.2.2.1 _ ez, ho⟩
        · rename_i hb
          rw [if_neg hb]
          split at hq
          · simp at hq
          · rename_i o2 eo
            simp only [Option.some.injEq] at hq
            rw [← hq]
            exact ⟨rfl, hid.symm, hz, ho.put hk hg.2.2.2.2.1 _ eo⟩
end Go.Abs

namespace Go.Abs
open Go
theorem T.drop_fork0 {key : ByteArray} (hk : key.size = 32) {a : Nat} {k : ByteArray} {z o : T} (hg : (T.fork a k z o).good) (hc : ¬ common k key < a) (hb : bit key a = false) :
    ((z.drop key).1 = .nil → ((T.fork a k z o).drop key).1 = o) ∧ ((z.drop key).1 ≠ .nil → ((T.fork a k z o).drop key).1 = .fork a k (z.drop key).1 o) := by
  have hid := T.fork_idem hg
  have hs := (T.drop_spec hk hg.2.2.2.1).2.2.2
  rw [T.drop, if_neg hc, if_pos hb]
  cases e : z.drop key with
  | mk z' w =>
    rw [e] at hs
    cases w with
    | false =>
      have h1 := hs rfl
      simp only at h1 ⊢
      subst h1
      exact ⟨fun h => absurd h hg.2.1, fun _ => rfl⟩
    | true =>
      cases z' with
      | nil => exact ⟨fun _ => rfl, fun h => absurd rfl h⟩
      | leaf k' v => exact ⟨fun h => by simp at h, fun _ => by simp only [mkFork, hid]⟩
      | fork a' k' p q => exact ⟨fun h => by simp at h, fun _ => by simp only [mkFork, hid]⟩
theorem T.drop_fork1 {key : ByteArray} (hk : key.size = 32) {a : Nat} {k : ByteArray} {z o : T} (hg : (T.fork a k z o).good) (hc : ¬ common k key < a) (hb : ¬ bit key a = false) :
    ((o.drop key).1 = .nil → ((T.fork a k z o).drop key).1 = z) ∧ ((o.drop key).1 ≠ .nil → ((T.fork a k z o).drop key).1 = .fork a k z (o.drop key).1) := by
  have hid := T.fork_idem hg
  have hs := (T.drop_spec hk hg.2.2.2.2.1).2.2.2
  rw [T.drop, if_neg hc, if_neg hb]
  cases e : o.drop key with
  | mk z' w =>
    rw [e] at hs
    cases w with
    | false =>
      have h1 := hs rfl
      simp only at h1 ⊢
      subst h1
      exact ⟨fun h => absurd h hg.2.2.1, fun _ => rfl⟩
    | true =>
      cases z' with
      | nil => exact ⟨fun _ => rfl, fun h => absurd rfl h⟩
      | leaf k' v => exact ⟨fun h => by simp at h, fun _ => by simp only [mkFork, hid]⟩
      | fork a' k' p q => exact ⟨fun h => by simp at h, fun _ => by simp only [mkFork, hid]⟩
/-- what is left of a part is a part of what is left -/
def DropR (q : Option PT) (t : T) : Prop := match q with
  | none => t = .nil
  | some q => Pru q t ∧ t ≠ .nil
theorem Pru.drop {key : ByteArray} (hk : key.size = 32) : ∀ {p : PT} {t : T}, Pru p t → t.good → ∀ q, p.drop key = some q → DropR q (t.drop key).1
  | .stub h, t, e, _, q, hq => by simp [PT.drop] at hq
  | .leaf k v, t, e, hg, q, hq => by
    have e : t = .leaf k v := e
    subst e
    have hc := common_lt hg.1 hk
    rw [PT.drop] at hq
    rw [T.drop]
    split at hq
    · rename_i h
      rw [if_neg (fun h' => (hc.1 h') h)]
      simp only [Option.some.injEq] at hq
      rw [← hq]; exact rfl
    · rename_i h
      rw [if_pos (hc.2 h)]
      simp only [Option.some.injEq] at hq
      rw [← hq]
      exact ⟨rfl, by simp⟩
  | .fork a k z o, t, e, hg, q, hq => by
    cases t with
    | nil => exact e.elim
    | leaf k v => exact e.elim
    | fork a' k' z' o' =>
      have e0 := e
      obtain ⟨rfl, rfl, hz, ho⟩ := e
      rw [PT.drop] at hq
      split at hq
      · rename_i hc
        simp only [Option.some.injEq] at hq
        rw [← hq, T.drop, if_pos hc]
        exact ⟨e0, by simp⟩
      · rename_i hc
        split at hq
        · rename_i hb
          have hd := T.drop_fork0 hk hg hc hb
          split at hq
          · simp at hq
          · rename_i ez
            have := hz.drop hk hg.2.2.2.1 _ ez
            simp only [Option.some.injEq] at hq
            rw [← hq, hd.1 (show (z'.drop key).1 = .nil from this)]
            exact ⟨ho, hg.2.2.1⟩
          · rename_i z2 ez
            have := hz.drop hk hg.2.2.2.1 _ ez
            simp only [Option.some.injEq] at hq
            rw [← hq, hd.2 this.2]
            exact ⟨⟨rfl, rfl, this.1, ho⟩, by simp⟩
        · rename_i hb
          have hd := T.drop_fork1 hk hg hc hb
          split at hq
          · simp at hq
          · rename_i ez
            have := ho.drop hk hg.2.2.2.2.1 _ ez
            simp only [Option.some.injEq] at hq
            rw [← hq, hd.1 (show (o'.drop key).1 = .nil from this)]
            exact ⟨hz, hg.2.1⟩
          · rename_i z2 ez
            have := ho.drop hk hg.2.2.2.2.1 _ ez
            simp only [Option.some.injEq] at hq
            rw [← hq, hd.2 this.2]
            exact ⟨⟨rfl, rfl, hz, this.1⟩, by simp⟩
/-- what is shown, as a part -/
def prune : T → List ByteArray → List UP → PT
  | .nil, _, _ => .stub zero32
  | .leaf k v, _, _ => .leaf k v
  | .fork a k z o, ks, us => .fork a k
      (if (ks.filter (leadK a k false)).isEmpty && (us.filter (leadU a k false)).isEmpty then .stub z.hash else prune z (ks.filter (leadK a k false)) (us.filter (leadU a k false)))
      (if (ks.filter (leadK a k true)).isEmpty && (us.filter (leadU a k true)).isEmpty then .stub o.hash else prune o (ks.filter (leadK a k true)) (us.filter (leadU a k true)))
theorem prune_pru : ∀ (t : T) (ks : List ByteArray) (us : List UP), Pru (prune t ks us) t
  | .nil, _, _ => rfl
  | .leaf k v, _, _ => rfl
  | .fork a k z o, ks, us => by
    refine ⟨rfl, rfl, ?_, ?_⟩
    · split
      · exact rfl
      · exact prune_pru z _ _
    · split
      · exact rfl
      · exact prune_pru o _ _
/-- may a tree stand there? -/
def holdsT (u : Option (Nat × ByteArray × Bool)) : T → Prop
  | .nil => False
  | .leaf k _ => holdsB u k 256 = true
  | .fork a k _ _ => holdsB u k a = true
theorem kid_holds {a : Nat} {k : ByteArray} {z : T} (s : Bool) (ha : a < 256) (hz : z.good) (hn : z ≠ .nil) (hb : ∀ p ∈ z.pairs, bit p.1 a = s) (hk : ∀ p ∈ z.pairs, agree a p.1 k) (hk32 : k.size = 32) : holdsT (some (a, k, s)) z := by
  cases z with
  | nil => exact absurd rfl hn
  | leaf k' v =>
    have h1 := hb (k', v) (by simp [T.pairs])
    have h2 := hk (k', v) (by simp [T.pairs])
    simp only [holdsT, holdsB, Bool.and_eq_true, decide_eq_true_eq]
    exact ⟨by omega, hasB_iff.2 h2, by simpa using h1⟩
  | fork a' k' z' o' =>
    -- two keys below it part at a', and have the first a + 1 bits in common
    obtain ⟨p, hp⟩ := List.exists_mem_of_ne_nil _ (T.pairs_ne hz.2.2.2.1 hz.2.1)
    obtain ⟨q, hq⟩ := List.exists_mem_of_ne_nil _ (T.pairs_ne hz.2.2.2.2.1 hz.2.2.1)
    have hpm : p ∈ (T.fork a' k' z' o').pairs := by simp [T.pairs, hp]
    have hqm : q ∈ (T.fork a' k' z' o').pairs := by simp [T.pairs, hq]
    have bp := hz.2.2.2.2.2.1 p hp
    have bq := hz.2.2.2.2.2.2.1 q hq
    have ap := T.fork_agree hz p (by simp [hp])
    have h256 := hz.1
    have hag : agree a p.1 q.1 := (hk p hpm).trans (hk q hqm).symm
    have hne : a ≠ a' := by
      intro e
      have h1 := hb p hpm
      have h2 := hb q hqm
      rw [e] at h1 h2
      rw [h1] at bp; rw [h2] at bq
      rw [bp] at bq; simp at bq
    have hlt : a < a' := by
      rcases Nat.lt_trichotomy a a' with h | h | h
      · exact h
      · exact absurd h hne
      · have := hag a' h
        rw [bp, bq] at this; simp at this
    simp only [holdsT, holdsB, Bool.and_eq_true, decide_eq_true_eq]
    refine ⟨hlt, hasB_iff.2 ((ap.le (by omega)).symm.trans (hk p hpm)), ?_⟩
    have h1 := ap a hlt
    rw [hb p hpm] at h1
    simp [← h1]
theorem pread_show : ∀ (t : T) (ks : List ByteArray) (us : List UP) (f : Nat) (u : Option (Nat × ByteArray × Bool)) (rest : List Nd), t.good → holdsT u t → (match u with | none => 257 ≤ f | some (a, _, _) => a < 256 ∧ 256 ≤ a + f) →
    pread f u (showN t ks us ++ rest) = some (prune t ks us, rest)
  | .nil, _, _, _, _, _, _, h, _ => h.elim
  | .leaf k v, ks, us, f, u, rest, hg, h, hf => by
    obtain ⟨f, rfl⟩ : ∃ g, f = g + 1 := by
      rcases u with _ | ⟨a, _, _⟩
      · exact ⟨f - 1, by simp only at hf; omega⟩
      · exact ⟨f - 1, by simp only at hf; omega⟩
    show (if k.size = 32 ∧ holdsB u k 256 = true then some (PT.leaf k v, rest) else none) = _
    rw [if_pos ⟨hg.1, h⟩]
    rfl
  | .fork a k z o, ks, us, f, u, rest, hg, h, hf => by
    obtain ⟨f, rfl⟩ : ∃ g, f = g + 1 := by
      rcases u with _ | ⟨a, _, _⟩
      · exact ⟨f - 1, by simp only at hf; omega⟩
      · exact ⟨f - 1, by simp only at hf; omega⟩
    have hk32 := T.ksize hg
    have hid := T.fork_idem hg
    have hag := T.fork_agree hg
    obtain ⟨h1, h2, h3, h4, h5, h6, h7, _⟩ := hg
    have hz := kid_holds false h1 h4 h2 h6 (fun p hp => hag p (by simp [hp])) hk32
    have ho := kid_holds true h1 h5 h3 h7 (fun p hp => hag p (by simp [hp])) hk32
    have hf' : ∀ s : Bool, (match (some (a, k, s) : Option (Nat × ByteArray × Bool)) with | none => 257 ≤ f | some (a, _, _) => a < 256 ∧ 256 ≤ a + f) := fun s => ⟨h1, by
      rcases u with _ | ⟨a', k', s'⟩
      · simp only at hf; omega
      · simp only [holdsT, holdsB, Bool.and_eq_true, decide_eq_true_eq] at h
        simp only at hf; omega⟩
    have hpos : ∀ u, ∃ g, f = g + 1 ∨ u = 0 := fun u => ⟨f - 1, by have := (hf' false).2; omega⟩
    have hstub : ∀ (s : Bool) (t : T) (rest : List Nd), pread f (some (a, k, s)) (.str t.hash :: rest) = some (.stub t.hash, rest) := by
      intro s t rest
      have := (hf' false).2
      obtain ⟨g, rfl⟩ : ∃ g, f = g + 1 := ⟨f - 1, by omega⟩
      show (if t.hash.size = 32 then some (PT.stub t.hash, rest) else none) = _
      rw [if_pos t.hash_size]
    rw [showN, prune]
    show (if a < 256 ∧ k.size = 32 ∧ holdsB u k a = true ∧ firstK k a = k then _ else none) = _
    rw [if_pos ⟨h1, hk32, h, hid⟩]
    have e1 : ∀ rest, pread f (some (a, k, false)) ((if (ks.filter (leadK a k false)).isEmpty && (us.filter (leadU a k false)).isEmpty then [.str z.hash] else showN z (ks.filter (leadK a k false)) (us.filter (leadU a k false))) ++ rest) =
        some (if (ks.filter (leadK a k false)).isEmpty && (us.filter (leadU a k false)).isEmpty then .stub z.hash else prune z (ks.filter (leadK a k false)) (us.filter (leadU a k false)), rest) := by
      intro rest
      split
      · exact hstub false z rest
      · exact pread_show z _ _ f _ rest h4 hz (hf' false)
    have e2 : ∀ rest, pread f (some (a, k, true)) ((if (ks.filter (leadK a k true)).isEmpty && (us.filter (leadU a k true)).isEmpty then [.str o.hash] else showN o (ks.filter (leadK a k true)) (us.filter (leadU a k true))) ++ rest) =
        some (if (ks.filter (leadK a k true)).isEmpty && (us.filter (leadU a k true)).isEmpty then .stub o.hash else prune o (ks.filter (leadK a k true)) (us.filter (leadU a k true)), rest) := by
      intro rest
      split
      · exact hstub true o rest
      · exact pread_show o _ _ f _ rest h5 ho (hf' true)
    simp only [List.append_eq, List.append_assoc]
    rw [e1]
    simp only
    rw [e2]
end Go.Abs

namespace Go.Abs
open Go
theorem common_comm (a b : ByteArray) : common a b = common b a := by
  apply common_eq
  obtain ⟨h1, h2, h3⟩ := common_is a b
  exact ⟨h1, fun i hi => (h2 i hi).symm, fun h e => h3 h e.symm⟩
theorem sK_eq {a : Nat} (ha : a < 256) {k : ByteArray} {s : Bool} {x : ByteArray} (h : okK x = true) : sK a k s x = leadK a k s x := by
  have hag := agree_iff (a := x) (b := k) (n := a) (by omega)
  unfold sK leadK
  rw [h, Bool.true_and]
  congr 1
  cases e : hasB a x k with
  | true => rw [decide_eq_true (hag.2 (hasB_iff.1 e))]
  | false => rw [decide_eq_false (fun h => by rw [hasB_iff.2 (hag.1 h)] at e; simp at e)]
theorem sU_eq {a : Nat} (ha : a < 256) {k : ByteArray} {s : Bool} {p : UP} (h : okU p = true) : sU a k s p = leadU a k s p := by
  unfold sU leadU
  rw [h, Bool.true_and]
  simp only [okU, Bool.and_eq_true, decide_eq_true_eq] at h
  by_cases hp : (a : Int) < p.2
  · have hag := agree_iff (a := p.1) (b := k) (n := a) (by omega)
    rw [if_pos hp, show decide (p.2 ≤ (a : Int)) = false from decide_eq_false (by omega), Bool.false_or]
    congr 1
    cases e : hasB a p.1 k with
    | true => have := hag.2 (hasB_iff.1 e); rw [decide_eq_true (by omega)]
    | false => rw [decide_eq_false (fun h' => by rw [hasB_iff.2 (hag.1 (by omega))] at e; simp at e)]
  · have hag := agree_iff (a := p.1) (b := k) (n := p.2.toNat) (by omega)
    rw [if_neg hp, show decide (p.2 ≤ (a : Int)) = true from decide_eq_true (by omega), Bool.true_or, Bool.and_true]
    cases e : hasB p.2.toNat k p.1 with
    | true => have := hag.2 (hasB_iff.1 e).symm; rw [decide_eq_true (by omega)]
    | false => rw [decide_eq_false (fun h' => by rw [hasB_iff.2 (hag.1 (by omega)).symm] at e; simp at e)]
/-- does a prefix reach a fork? -/
def reachU (a : Nat) (k : ByteArray) (p : UP) : Prop := if (a : Int) < p.2 then agree a p.1 k else agree p.2.toNat k p.1
theorem holds_kid {a a' : Nat} {k k' : ByteArray} {s : Bool} (h : holdsB (some (a, k, s)) k' a' = true) : a < a' ∧ agree a k' k ∧ bit k' a = s := by
  simp only [holdsB, Bool.and_eq_true, decide_eq_true_eq] at h
  exact ⟨h.1, hasB_iff.1 h.2.1, by simpa using h.2.2⟩
theorem leadU_iff {a : Nat} (ha : a < 256) {k : ByteArray} {s : Bool} {p : UP} (h : okU p = true) : leadU a k s p = true ↔ reachU a k p ∧ ((a : Int) < p.2 → bit p.1 a = s) := by
  rw [← sU_eq ha h]
  unfold sU reachU
  rw [h, Bool.true_and]
  by_cases hp : (a : Int) < p.2
  · rw [if_pos hp, if_pos hp, Bool.and_eq_true, hasB_iff]
    simp [hp]
  · rw [if_neg hp, if_neg hp, hasB_iff]
    simp [hp]
theorem leadK_iff {a : Nat} (ha : a < 256) {k : ByteArray} {s : Bool} {x : ByteArray} : leadK a k s x = true ↔ agree a x k ∧ bit x a = s := by
  unfold leadK
  rw [Bool.and_eq_true, decide_eq_true_eq, agree_iff (by omega)]
  simp
/-- what reaches a fork below reached the one above, and leads there -/
theorem kid_leadK {a a' : Nat} {k k' : ByteArray} {s : Bool} (ha : a < 256) (h : holdsB (some (a, k, s)) k' a' = true) {x : ByteArray} (hx : agree a' x k') : agree a x k ∧ leadK a k s x = true := by
  obtain ⟨h1, h2, h3⟩ := holds_kid h
  have e : agree a x k := (hx.le (by omega)).trans h2
  exact ⟨e, (leadK_iff ha).2 ⟨e, by rw [hx a h1, h3]⟩⟩
theorem kid_leadU {a a' : Nat} {k k' : ByteArray} {s : Bool} (ha : a < 256) (ha' : a' < 256) (h : holdsB (some (a, k, s)) k' a' = true) {p : UP} (hp : okU p = true) (hr : reachU a' k' p) : reachU a k p ∧ leadU a k s p = true := by
  obtain ⟨h1, h2, h3⟩ := holds_kid h
  have hok := hp
  simp only [okU, Bool.and_eq_true, decide_eq_true_eq] at hok
  have key : reachU a k p ∧ ((a : Int) < p.2 → bit p.1 a = s) := by
    unfold reachU at hr ⊢
    by_cases g : (a : Int) < p.2
    · rw [if_pos g]
      have hag : agree (a + 1) p.1 k' := by
        split at hr
        · exact hr.le (by omega)
        · exact (hr.le (by omega)).symm
      exact ⟨(hag.le (by omega)).trans h2, fun _ => by rw [hag a (by omega), h3]⟩
    · rw [if_neg g]
      have hag : agree p.2.toNat k' p.1 := by
        split at hr
        · omega
        · exact hr
      exact ⟨(h2.le (by omega)).symm.trans hag, fun h => absurd h g⟩
  exact ⟨key.1, (leadU_iff ha hp).2 key⟩
theorem empty_side (ks0 A : List ByteArray) (us0 U : List UP) (a : Nat) (ha : a < 256) (k : ByteArray) (s : Bool) (hA1 : ∀ x ∈ A, x ∈ ks0 ∧ okK x = true) (hU1 : ∀ p ∈ U, p ∈ us0 ∧ okU p = true)
    (hA2 : ∀ x ∈ ks0, okK x = true → agree a x k → x ∈ A) (hU2 : ∀ p ∈ us0, okU p = true → reachU a k p → p ∈ U) : ((A.filter (leadK a k s)).isEmpty && (U.filter (leadU a k s)).isEmpty) = !(sideB ks0 us0 a k s) := by
  cases e : sideB ks0 us0 a k s with
  | true =>
    simp only [Bool.not_true, Bool.and_eq_false_iff]
    unfold sideB at e
    rw [Bool.or_eq_true, List.any_eq_true, List.any_eq_true] at e
    rcases e with ⟨x, hx, hs⟩ | ⟨p, hp, hs⟩
    · left
      have hok : okK x = true := by unfold sK at hs; rw [Bool.and_eq_true] at hs; exact hs.1
      rw [sK_eq ha hok] at hs
      have hm : x ∈ A.filter (leadK a k s) := List.mem_filter.2 ⟨hA2 x hx hok ((leadK_iff ha).1 hs).1, hs⟩
      cases hl : A.filter (leadK a k s) with
      | nil => rw [hl] at hm; simp at hm
      | cons => rfl
    · right
      have hok : okU p = true := by unfold sU at hs; rw [Bool.and_eq_true] at hs; exact hs.1
      rw [sU_eq ha hok] at hs
      have hm : p ∈ U.filter (leadU a k s) := List.mem_filter.2 ⟨hU2 p hp hok ((leadU_iff ha hok).1 hs).1, hs⟩
      cases hl : U.filter (leadU a k s) with
      | nil => rw [hl] at hm; simp at hm
      | cons => rfl
  | false =>
    simp only [Bool.not_false, Bool.and_eq_true, List.isEmpty_iff]
    unfold sideB at e
    rw [Bool.or_eq_false_iff] at e
    constructor
    · apply List.filter_eq_nil_iff.2
      intro x hx h
      have := List.any_eq_false.1 e.1 x (hA1 x hx).1
      rw [sK_eq ha (hA1 x hx).2] at this
      exact this h
    · apply List.filter_eq_nil_iff.2
      intro p hp h
      have := List.any_eq_false.1 e.2 p (hU1 p hp).1
      rw [sU_eq ha (hU1 p hp).2] at this
      exact this h
theorem show_eq (ks0 : List ByteArray) (us0 : List UP) : ∀ (t : T) (A : List ByteArray) (U : List UP), t.good → (∀ x ∈ A, x ∈ ks0 ∧ okK x = true) → (∀ p ∈ U, p ∈ us0 ∧ okU p = true) →
    (∀ a k z o, t = .fork a k z o → (∀ x ∈ ks0, okK x = true → agree a x k → x ∈ A) ∧ (∀ p ∈ us0, okU p = true → reachU a k p → p ∈ U)) → showN t A U = showR t ks0 us0
  | .nil, _, _, _, _, _, _ => rfl
  | .leaf k v, _, _, _, _, _, _ => rfl
  | .fork a k z o, A, U, hg, hA1, hU1, h2 => by
    obtain ⟨hA2, hU2⟩ := h2 a k z o rfl
    have hk32 := T.ksize hg
    have hag := T.fork_agree hg
    obtain ⟨h1, h2', h3, h4, h5, h6, h7, _⟩ := hg
    have hz := kid_holds false h1 h4 h2' h6 (fun p hp => hag p (by simp [hp])) hk32
    have ho := kid_holds true h1 h5 h3 h7 (fun p hp => hag p (by simp [hp])) hk32
    have kid : ∀ (s : Bool) (c : T), c.good → holdsT (some (a, k, s)) c → (∀ A U, c.good → (∀ x ∈ A, x ∈ ks0 ∧ okK x = true) → (∀ p ∈ U, p ∈ us0 ∧ okU p = true) →
        (∀ a k z o, c = .fork a k z o → (∀ x ∈ ks0, okK x = true → agree a x k → x ∈ A) ∧ (∀ p ∈ us0, okU p = true → reachU a k p → p ∈ U)) → showN c A U = showR c ks0 us0) →
        showN c (A.filter (leadK a k s)) (U.filter (leadU a k s)) = showR c ks0 us0 := by
      intro s c hc hh ih
      refine ih _ _ hc (fun x hx => hA1 x (List.mem_filter.1 hx).1) (fun p hp => hU1 p (List.mem_filter.1 hp).1) fun a' k' z' o' e => ?_
      subst e
      refine ⟨fun x hx hok hr => ?_, fun p hp hok hr => ?_⟩
      · obtain ⟨q1, q2⟩ := kid_leadK h1 hh hr
        exact List.mem_filter.2 ⟨hA2 x hx hok q1, q2⟩
      · obtain ⟨q1, q2⟩ := kid_leadU h1 hc.1 hh hok hr
        exact List.mem_filter.2 ⟨hU2 p hp hok q1, q2⟩
    rw [showN, showR, empty_side ks0 A us0 U a h1 k false hA1 hU1 hA2 hU2, empty_side ks0 A us0 U a h1 k true hA1 hU1 hA2 hU2,
      kid false z h4 hz (fun A U a b c d => show_eq ks0 us0 z A U a b c d), kid true o h5 ho (fun A U a b c d => show_eq ks0 us0 o A U a b c d)]
    cases sideB ks0 us0 a k false <;> cases sideB ks0 us0 a k true <;> rfl
theorem showT_eq {t : T} (hg : t.good) (ks : List ByteArray) (us : List UP) : showN t (ks.filter okK) (us.filter okU) = showR t ks us :=
  show_eq ks us t _ _ hg (fun x hx => List.mem_filter.1 hx) (fun p hp => List.mem_filter.1 hp) fun _ _ _ _ _ => ⟨fun x hx hok _ => List.mem_filter.2 ⟨hx, hok⟩, fun p hp hok _ => List.mem_filter.2 ⟨hp, hok⟩⟩
/-- of what was asked a key's value is known -/
theorem get_known {key : ByteArray} : ∀ (t : T) (A : List ByteArray) (U : List UP), t.good → t ≠ .nil → key ∈ A → ∃ r, (prune t A U).get key = some r
  | .nil, _, _, _, h, _ => absurd rfl h
  | .leaf k v, _, _, _, _, _ => ⟨_, rfl⟩
  | .fork a k z o, A, U, hg, _, hm => by
    obtain ⟨h1, h2, h3, h4, h5, _⟩ := hg
    rw [prune, PT.get]
    by_cases hc : common k key < a
    · rw [if_pos hc]; exact ⟨_, rfl⟩
    · rw [if_neg hc]
      have hag : agree a key k := (agree_iff (by omega)).1 (by rw [common_comm]; omega)
      have hne : ∀ s, bit key a = s → key ∈ A.filter (leadK a k s) := fun s hs => List.mem_filter.2 ⟨hm, (leadK_iff h1).2 ⟨hag, hs⟩⟩
      have hno : ∀ s, bit key a = s → ((A.filter (leadK a k s)).isEmpty && (U.filter (leadU a k s)).isEmpty) = false := by
        intro s hs
        have := hne s hs
        cases hl : A.filter (leadK a k s) with
        | nil => rw [hl] at this; simp at this
        | cons => rfl
      by_cases hb : bit key a = false
      · rw [if_pos hb, hno false hb, if_neg (by simp)]
        exact get_known z _ _ h4 h2 (hne false hb)
      · have hb' : bit key a = true := by simpa using hb
        rw [if_neg hb, hno true hb', if_neg (by simp)]
        exact get_known o _ _ h5 h3 (hne true hb')
theorem all_known {p : UP} (hp : okU p = true) : ∀ (t : T) (A : List ByteArray) (U : List UP), t.good → t ≠ .nil → p ∈ U → (∀ a k z o, t = .fork a k z o → p.2 ≤ (a : Int) ∧ agree p.2.toNat k p.1) → ∃ l, (prune t A U).all = some l
  | .nil, _, _, _, h, _, _ => absurd rfl h
  | .leaf k v, _, _, _, _, _, _ => ⟨_, rfl⟩
  | .fork a k z o, A, U, hg, _, hm, hr => by
    obtain ⟨r1, r2⟩ := hr a k z o rfl
    have hk32 := T.ksize hg
    have hag := T.fork_agree hg
    obtain ⟨h1, h2, h3, h4, h5, h6, h7, _⟩ := hg
    have hz := kid_holds false h1 h4 h2 h6 (fun p hp => hag p (by simp [hp])) hk32
    have ho := kid_holds true h1 h5 h3 h7 (fun p hp => hag p (by simp [hp])) hk32
    have hok := hp
    simp only [okU, Bool.and_eq_true, decide_eq_true_eq] at hok
    have hne : ∀ s, p ∈ U.filter (leadU a k s) := fun s => List.mem_filter.2 ⟨hm, (leadU_iff h1 hp).2 ⟨by unfold reachU; rw [if_neg (by omega)]; exact r2, fun h => by omega⟩⟩
    have hno : ∀ s, ((A.filter (leadK a k s)).isEmpty && (U.filter (leadU a k s)).isEmpty) = false := by
      intro s
      have := hne s
      cases hl : U.filter (leadU a k s) with
      | nil => rw [hl] at this; simp at this
      | cons => simp
    have kid : ∀ s (c : T), holdsT (some (a, k, s)) c → ∀ a' k' z' o', c = .fork a' k' z' o' → p.2 ≤ (a' : Int) ∧ agree p.2.toNat k' p.1 := by
      intro s c hc a' k' z' o' e
      subst e
      obtain ⟨q1, q2, _⟩ := holds_kid hc
      exact ⟨by omega, (q2.le (by omega)).trans r2⟩
    obtain ⟨l1, e1⟩ := all_known hp z (A.filter (leadK a k false)) (U.filter (leadU a k false)) h4 h2 (hne _) (kid false z hz)
    obtain ⟨l2, e2⟩ := all_known hp o (A.filter (leadK a k true)) (U.filter (leadU a k true)) h5 h3 (hne _) (kid true o ho)
    rw [prune, hno, hno, if_neg (by simp), if_neg (by simp), PT.all, e1]
    simp only
    rw [e2]
    exact ⟨_, rfl⟩
theorem under_known {p : UP} (hp : okU p = true) : ∀ (t : T) (A : List ByteArray) (U : List UP), t.good → t ≠ .nil → p ∈ U → ∃ l, (prune t A U).under p.1 p.2.toNat = some l
  | .nil, _, _, _, h, _ => absurd rfl h
  | .leaf k v, _, _, _, _, _ => ⟨_, rfl⟩
  | .fork a k z o, A, U, hg, hnn, hm => by
    have hg0 := hg
    have hok := hp
    simp only [okU, Bool.and_eq_true, decide_eq_true_eq] at hok
    obtain ⟨h1, h2, h3, h4, h5, _⟩ := hg
    by_cases hc : common k p.1 < min a p.2.toNat
    · rw [prune, PT.under, if_pos hc]; exact ⟨_, rfl⟩
    · by_cases hna : p.2.toNat ≤ a
      · have hag : agree p.2.toNat k p.1 := (agree_iff (by omega)).1 (by omega)
        obtain ⟨l, hl⟩ := all_known hp (.fork a k z o) A U hg0 hnn hm (fun a' k' z' o' e => by
          simp only [T.fork.injEq] at e
          obtain ⟨rfl, rfl, _, _⟩ := e
          exact ⟨by omega, hag⟩)
        refine ⟨l, ?_⟩
        rw [prune] at hl ⊢
        rw [PT.under, if_neg hc, if_pos hna]
        exact hl
      · have hag : agree a p.1 k := (agree_iff (by omega)).1 (by rw [common_comm]; omega)
        have hne : ∀ s, bit p.1 a = s → p ∈ U.filter (leadU a k s) := fun s hs => List.mem_filter.2 ⟨hm, (leadU_iff h1 hp).2 ⟨by unfold reachU; rw [if_pos (by omega)]; exact hag, fun _ => hs⟩⟩
        have hno : ∀ s, bit p.1 a = s → ((A.filter (leadK a k s)).isEmpty && (U.filter (leadU a k s)).isEmpty) = false := by
          intro s hs
          have := hne s hs
          cases hl : U.filter (leadU a k s) with
          | nil => rw [hl] at this; simp at this
          | cons => simp
        rw [prune, PT.under, if_neg hc, if_neg hna]
        by_cases hb : bit p.1 a = false
        · rw [if_pos hb, hno false hb, if_neg (by simp)]
          exact under_known hp z _ _ h4 h2 (hne false hb)
        · have hb' : bit p.1 a = true := by simpa using hb
          rw [if_neg hb, hno true hb', if_neg (by simp)]
          exact under_known hp o _ _ h5 h3 (hne true hb')
end Go.Abs

/- What was written is read again. -/
namespace Go.Abs
open Go
theorem tl_app (a b : ByteArray) : (a ++ b).data.toList = a.data.toList ++ b.data.toList := by simp [ByteArray.data_append]
theorem tl_nb (n : Nat) : (nb n).data.toList = [UInt8.ofNat n] := rfl
theorem rdSz_vsize : ∀ (f : Nat) (fst : Bool) (n : Nat) (rest : List UInt8), n < 128 ^ f → (fst = false → n ≠ 0) → 0 < f → rdSz f fst ((vsize n).data.toList ++ rest) = some (n, rest)
  | 0, _, _, _, _, _, h => by omega
  | f + 1, fst, n, rest, hn, h0, _ => by
    by_cases h : n < 128
    · rw [vsize1 n h, tl_nb]
      show (if (UInt8.ofNat n).toNat < 128 then _ else _) = _
      have e : (UInt8.ofNat n).toNat = n := by simp; omega
      rw [e, if_pos h, if_neg (by rintro ⟨q1, q2⟩; exact h0 q2 q1)]
      rfl
    · have hv : vsize n = nb (n % 128 + 128) ++ vsize (n / 128) := by rw [vsize, if_neg h]
      have hf : 0 < f := by
        rcases Nat.eq_zero_or_pos f with e | e
        · subst e; simp at hn; omega
        · exact e
      have ih := rdSz_vsize f false (n / 128) rest (by rw [Nat.pow_succ] at hn; exact Nat.div_lt_of_lt_mul (by rw [Nat.mul_comm]; exact hn)) (fun _ => by omega) hf
      rw [hv, tl_app, tl_nb]
      show (if (UInt8.ofNat (n % 128 + 128)).toNat < 128 then _ else match rdSz f false ((vsize (n / 128)).data.toList ++ rest) with | none => none | some (m, r) => some ((UInt8.ofNat (n % 128 + 128)).toNat % 128 + 128 * m, r)) = _
      have e : (UInt8.ofNat (n % 128 + 128)).toNat = n % 128 + 128 := by simp; omega
      rw [e, if_neg (by omega), ih]
      simp only [Option.some.injEq, Prod.mk.injEq, and_true]
      omega
theorem be_bigE (n : Nat) : be (bigE n) = n := by
  induction n using Nat.strongRecOn with
  | ind n ih =>
    by_cases h : n = 0
    · subst h; rw [bigE, if_pos rfl]; rfl
    · have e : bigE n = bigE (n / 256) ++ [UInt8.ofNat n] := by rw [bigE, if_neg h]
      rw [e, be_app, ih (n / 256) (by omega)]
      have : (UInt8.ofNat n).toNat = n % 256 := by simp
      rw [this]; omega
theorem bigE_head (n : Nat) : (bigE n)[0]? ≠ some 0 := by
  induction n using Nat.strongRecOn with
  | ind n ih =>
    by_cases h : n = 0
    · subst h; rw [bigE, if_pos rfl]; simp
    · have e : bigE n = bigE (n / 256) ++ [UInt8.ofNat n] := by rw [bigE, if_neg h]
      rw [e]
      by_cases h2 : n < 256
      · have : n / 256 = 0 := by omega
        have e0 : bigE 0 = [] := by rw [bigE, if_pos rfl]
        rw [this, e0]
        show some (UInt8.ofNat n) ≠ some 0
        intro hq
        have := congrArg (fun o : Option UInt8 => (o.getD 0).toNat) hq
        simp at this
        omega
      · have hne : bigE (n / 256) ≠ [] := by
          rw [bigE, if_neg (by omega)]
          simp
        have hl : 0 < (bigE (n / 256)).length := List.length_pos_iff.2 hne
        rw [List.getElem?_append_left hl]
        exact ih (n / 256) (by omega)
mutual
def Nd.read : Nd → Prop
  | .num n => n < 18446744073709551616
  | .str s => s.size < 268435456
  | .lst l => l.length < 268435456 ∧ Nd.readL l
def Nd.readL : List Nd → Prop
  | [] => True
  | a :: t => a.read ∧ Nd.readL t
end
theorem rdsW_bytes (f : List UInt8 → Option (Nd × List UInt8)) : ∀ (l : List Nd) (rest : List UInt8), (∀ n ∈ l, ∀ rest, f (n.bytes.data.toList ++ rest) = some (n, rest)) → rdsW f l.length ((Nd.bytesL l).data.toList ++ rest) = some (l, rest)
  | [], rest, _ => rfl
  | a :: l, rest, h => by
    rw [Nd.bytesL, tl_app, List.append_assoc, List.length_cons, rdsW, h a (by simp)]
    simp only
    rw [rdsW_bytes f l rest (fun n hn => h n (by simp [hn]))]
theorem Nd.readL_mem : ∀ {l : List Nd} {n : Nd}, n ∈ l → Nd.readL l → n.read
  | a :: t, n, h, hf => by
    rw [Nd.readL] at hf
    rcases List.mem_cons.1 h with rfl | h
    · exact hf.1
    · exact Nd.readL_mem h hf.2
theorem lt4 {n : Nat} (h : n < 268435456) : n < 128 ^ 4 := h
theorem rd_bytes : ∀ (d : Nat) (n : Nd) (rest : List UInt8), n.read → n.deep ≤ d → rd d (n.bytes.data.toList ++ rest) = some (n, rest)
  | 0, n, rest, _, h => by have := n.deep_pos; omega
  | d + 1, .num x, rest, hr, _ => by
    rw [Nd.read] at hr
    have h8 := bigE_lt x hr
    have hs := rdSz_vsize 4 true (bigE x).length (bigE x ++ rest) (lt4 (by omega)) (fun h => by simp at h) (by decide)
    rw [vsize1 _ (by omega)] at hs
    rw [Nd.bytes, tl_app, numB, tl_app, tl_nb]
    show rd (d + 1) (UInt8.ofNat 110 :: ((nb (bigE x).length).data.toList ++ bigE x ++ rest)) = _
    rw [rd, List.append_assoc, hs]
    simp only
    rw [if_pos (show (UInt8.ofNat 110).toNat = 110 from rfl), if_neg]
    · rw [List.take_left', List.drop_left', be_bigE]
      · rfl
      · rfl
    · rintro (h | h | ⟨h1, h2⟩)
      · omega
      · simp at h; omega
      · rw [List.getElem?_append_left h1] at h2
        exact bigE_head x h2
  | d + 1, .str s, rest, hr, _ => by
    rw [Nd.read] at hr
    have hs := rdSz_vsize 4 true s.size (s.data.toList ++ rest) (lt4 (by omega)) (fun h => by simp at h) (by decide)
    rw [Nd.bytes, tl_app, tl_app, tl_nb]
    show rd (d + 1) (UInt8.ofNat 115 :: ((vsize s.size).data.toList ++ s.data.toList ++ rest)) = _
    rw [rd, List.append_assoc, hs]
    simp only
    have hl : s.data.toList.length = s.size := rfl
    rw [if_neg (show ¬ (UInt8.ofNat 115).toNat = 110 by decide), if_pos (show (UInt8.ofNat 115).toNat = 115 from rfl), if_neg (by simp), List.take_left' hl, List.drop_left' hl]
  | d + 1, .lst l, rest, hr, hd => by
    rw [Nd.read] at hr
    rw [Nd.deep] at hd
    have hs := rdSz_vsize 4 true l.length ((Nd.bytesL l).data.toList ++ rest) (lt4 (by omega)) (fun h => by simp at h) (by decide)
    rw [Nd.bytes, tl_app, tl_app, tl_nb]
    show rd (d + 1) (UInt8.ofNat 108 :: ((vsize l.length).data.toList ++ (Nd.bytesL l).data.toList ++ rest)) = _
    rw [rd, List.append_assoc, hs]
    simp only
    rw [if_neg (show ¬ (UInt8.ofNat 108).toNat = 110 by decide), if_neg (show ¬ (UInt8.ofNat 108).toNat = 115 by decide), if_pos (show (UInt8.ofNat 108).toNat = 108 from rfl),
      rdsW_bytes (rd d) l rest (fun n hn rest => rd_bytes d n rest (Nd.readL_mem hn hr.2) (by have := Nd.deep_mem hn; omega))]
theorem readN_bytes {n : Nd} (hr : n.read) (hd : n.deep ≤ 20) : readN n.bytes = some n := by
  unfold readN
  have := rd_bytes 20 n [] hr hd
  rw [List.append_nil] at this
  rw [this]
theorem Nd.readL_app (l m : List Nd) : Nd.readL (l ++ m) ↔ Nd.readL l ∧ Nd.readL m := by
  induction l with
  | nil => simp [Nd.readL]
  | cons a l ih => simp only [List.cons_append, Nd.readL, ih]; exact and_assoc.symm
theorem showN_read : ∀ (t : T) (ks : List ByteArray) (us : List UP), t.good → (∀ p ∈ t.pairs, p.2.size < 268435456) → Nd.readL (showN t ks us)
  | .nil, _, _, _, _ => trivial
  | .leaf k v, _, _, hg, hv => by
    have h32 : k.size = 32 := hg.1
    have := hv (k, v) (by simp [T.pairs])
    simp only [showN, Nd.readL, Nd.read, and_true]
    refine ⟨by simp, by omega, this⟩
  | .fork a k z o, ks, us, hg, hv => by
    have hk := T.ksize hg
    have h1 := showN_read z (ks.filter (leadK a k false)) (us.filter (leadU a k false)) hg.2.2.2.1 (fun p hp => hv p (by simp [T.pairs, hp]))
    have h2 := showN_read o (ks.filter (leadK a k true)) (us.filter (leadU a k true)) hg.2.2.2.2.1 (fun p hp => hv p (by simp [T.pairs, hp]))
    have h3 : ∀ t : T, Nd.readL [.str t.hash] := fun t => by have := t.hash_size; simp only [Nd.readL, Nd.read, and_true]; omega
    have ha := hg.1
    rw [showN, Nd.readL, Nd.readL_app]
    refine ⟨?_, ?_, ?_⟩
    · simp only [Nd.read, Nd.readL, and_true]
      exact ⟨by simp, by omega, by omega⟩
    · split
      · exact h3 z
      · exact h1
    · split
      · exact h3 o
      · exact h2
def showTx (t : T) (ks : List ByteArray) (us : List UP) : ByteArray := (Nd.lst (showN t (ks.filter okK) (us.filter okU))).bytes
def partOf (t : T) (ks : List ByteArray) (us : List UP) : Option PT := match t with
  | .nil => none
  | t => some (prune t (ks.filter okK) (us.filter okU))
theorem holdsT_none {t : T} (h : t ≠ .nil) : holdsT none t := by
  cases t with
  | nil => exact absurd rfl h
  | leaf k v => rfl
  | fork a k z o => rfl
theorem treeOf_show {t : T} (hg : t.good) (hv : ∀ p ∈ t.pairs, p.2.size < 268435456) (hl : t.pairs.length < 100000) (ks : List ByteArray) (us : List UP) : treeOf (showTx t ks us) = some (partOf t ks us) := by
  have hr := showN_read t (ks.filter okK) (us.filter okU) hg hv
  have hd := showN_deep t (ks.filter okK) (us.filter okU)
  unfold treeOf showTx
  by_cases ht : t = .nil
  · subst ht
    rw [readN_bytes (by simp [Nd.read, showN, Nd.readL]) (by simp [Nd.deep, showN, Nd.deepL])]
    rfl
  · have hlen := showN_len t (ks.filter okK) (us.filter okU) hg ht
    rw [readN_bytes (by rw [Nd.read]; exact ⟨by omega, hr⟩) (by rw [Nd.deep]; omega)]
    have hp := pread_show t (ks.filter okK) (us.filter okU) 257 none [] hg (holdsT_none ht) (Nat.le_refl _)
    rw [List.append_nil] at hp
    have hpo : partOf t ks us = some (prune t (ks.filter okK) (us.filter okU)) := by
      cases t with
      | nil => exact absurd rfl ht
      | leaf k v => rfl
      | fork a k z o => rfl
    rw [hpo]
    cases hN : showN t (ks.filter okK) (us.filter okU) with
    | nil => rw [hN] at hp; simp [pread] at hp
    | cons n N =>
      simp only
      rw [← hN, hp]
theorem rootP_part (t : T) (ks : List ByteArray) (us : List UP) : rootP (partOf t ks us) = t.hash := by
  cases t with
  | nil => rfl
  | leaf k v => rfl
  | fork a k z o => exact (prune_pru (.fork a k z o) _ _).hash
theorem prune_ok : ∀ (t : T) (ks : List ByteArray) (us : List UP), t.good → (∀ p ∈ t.pairs, p.2.size < 268435456) → (prune t ks us).ok
  | .nil, _, _, _, _ => rfl
  | .leaf k v, _, _, hg, hv => ⟨hg.1, by have h : v.size < 268435456 := hv (k, v) (by simp [T.pairs]); omega⟩
  | .fork a k z o, ks, us, hg, hv => by
    have h1 := prune_ok z (ks.filter (leadK a k false)) (us.filter (leadU a k false)) hg.2.2.2.1 (fun p hp => hv p (by simp [T.pairs, hp]))
    have h2 := prune_ok o (ks.filter (leadK a k true)) (us.filter (leadU a k true)) hg.2.2.2.2.1 (fun p hp => hv p (by simp [T.pairs, hp]))
    refine ⟨hg.1, T.ksize hg, T.fork_idem hg, ?_, ?_⟩
    · split
      · exact z.hash_size
      · exact h1
    · split
      · exact o.hash_size
      · exact h2
theorem prune_cnt : ∀ (t : T) (ks : List ByteArray) (us : List UP), t.good → t ≠ .nil → (prune t ks us).cnt ≤ t.pairs.length
  | .nil, _, _, _, h => absurd rfl h
  | .leaf k v, _, _, _, _ => Nat.le_refl _
  | .fork a k z o, ks, us, hg, _ => by
    have h1 := prune_cnt z (ks.filter (leadK a k false)) (us.filter (leadU a k false)) hg.2.2.2.1 hg.2.1
    have h2 := prune_cnt o (ks.filter (leadK a k true)) (us.filter (leadU a k true)) hg.2.2.2.2.1 hg.2.2.1
    have h3 := List.length_pos_iff.2 (T.pairs_ne hg.2.2.2.1 hg.2.1)
    have h4 := List.length_pos_iff.2 (T.pairs_ne hg.2.2.2.2.1 hg.2.2.1)
    rw [prune, PT.cnt]
    simp only [T.pairs, List.length_append]
    split <;> split <;> (try simp only [PT.cnt]) <;> omega
theorem numB_size (n : Nat) (h : n < 18446744073709551616) : (numB n).size ≤ 9 := by
  have := bigE_lt n h
  unfold numB
  rw [ByteArray.size_append]
  show 1 + (bigE n).length ≤ 9
  omega
theorem bytesL_size_app (l m : List Nd) : (Nd.bytesL (l ++ m)).size = (Nd.bytesL l).size + (Nd.bytesL m).size := by rw [Nd.bytesL_app, ByteArray.size_append]
theorem str_size (s : ByteArray) (h : s.size < 536870912) : (Nd.str s).bytes.size ≤ 6 + s.size := by
  have := vsize_le s.size h
  rw [Nd.bytes, ByteArray.size_append, ByteArray.size_append]
  have : (nb 115).size = 1 := rfl
  omega
theorem two_size (a b : Nd) (h : a.bytes.size + b.bytes.size < 500000000) : (Nd.lst [a, b]).bytes.size = 2 + a.bytes.size + b.bytes.size := by
  rw [Nd.bytes, ByteArray.size_append, ByteArray.size_append, Nd.bytesL, ByteArray.size_append, Nd.bytesL, ByteArray.size_append, Nd.bytesL]
  have h1 : (nb 108).size = 1 := rfl
  have h2 : (vsize [a, b].length).size = 1 := by show (vsize 2).size = 1; rw [vsize1 2 (by decide)]; rfl
  have h3 : (⟨#[]⟩ : ByteArray).size = 0 := rfl
  rw [h1, h2, h3]; omega
theorem one_size (n : Nd) : (Nd.bytesL [n]).size = n.bytes.size := by
  rw [Nd.bytesL, ByteArray.size_append]; rfl
theorem showN_size (V : Nat) (hV : V < 100000000) : ∀ (t : T) (ks : List ByteArray) (us : List UP), t.good → (∀ p ∈ t.pairs, p.2.size ≤ V) → (Nd.bytesL (showN t ks us)).size ≤ (showN t ks us).length * (80 + V)
  | .nil, _, _, _, _ => Nat.zero_le _
  | .leaf k v, _, _, hg, hv => by
    have h1 : k.size = 32 := hg.1
    have h2 : v.size ≤ V := hv (k, v) (by simp [T.pairs])
    have s1 := str_size k (by omega)
    have s2 := str_size v (by omega)
    rw [showN, one_size, two_size _ _ (by omega)]
    simp only [List.length_singleton]; omega
  | .fork a k z o, ks, us, hg, hv => by
    have hk := T.ksize hg
    have h1 := showN_size V hV z (ks.filter (leadK a k false)) (us.filter (leadU a k false)) hg.2.2.2.1 (fun p hp => hv p (by simp [T.pairs, hp]))
    have h2 := showN_size V hV o (ks.filter (leadK a k true)) (us.filter (leadU a k true)) hg.2.2.2.2.1 (fun p hp => hv p (by simp [T.pairs, hp]))
    have ha := hg.1
    have hn : (Nd.num a).bytes.size ≤ 10 := by
      have := numB_size a (by omega)
      rw [Nd.bytes, ByteArray.size_append]
      show 1 + _ ≤ 10
      omega
    have hs := str_size k (by omega)
    have h3 : ∀ t : T, (Nd.bytesL [.str t.hash]).size ≤ 1 * (80 + V) := fun t => by
      have := str_size t.hash (by rw [T.hash_size]; decide)
      rw [T.hash_size] at this
      rw [one_size]; omega
    rw [showN, Nd.bytesL, ByteArray.size_append, bytesL_size_app, two_size _ _ (by omega), List.length_cons, List.length_append, Nat.add_mul, Nat.add_mul]
    have e1 : (Nd.bytesL (if (ks.filter (leadK a k false)).isEmpty && (us.filter (leadU a k false)).isEmpty then [Nd.str z.hash] else showN z (ks.filter (leadK a k false)) (us.filter (leadU a k false)))).size ≤
        (if (ks.filter (leadK a k false)).isEmpty && (us.filter (leadU a k false)).isEmpty then [Nd.str z.hash] else showN z (ks.filter (leadK a k false)) (us.filter (leadU a k false))).length * (80 + V) := by
      split
      · exact h3 z
      · exact h1
    have e2 : (Nd.bytesL (if (ks.filter (leadK a k true)).isEmpty && (us.filter (leadU a k true)).isEmpty then [Nd.str o.hash] else showN o (ks.filter (leadK a k true)) (us.filter (leadU a k true)))).size ≤
        (if (ks.filter (leadK a k true)).isEmpty && (us.filter (leadU a k true)).isEmpty then [Nd.str o.hash] else showN o (ks.filter (leadK a k true)) (us.filter (leadU a k true))).length * (80 + V) := by
      split
      · exact h3 o
      · exact h2
    omega
theorem showTx_size {t : T} (hg : t.good) {V : Nat} (hV : V < 100000000) (hv : ∀ p ∈ t.pairs, p.2.size ≤ V) {n : Nat} (hl : t.pairs.length ≤ n) (hn : n < 100000) (hb : 2 * n * (80 + V) + 6 ≤ 16777216) (ks : List ByteArray) (us : List UP) : (showTx t ks us).size ≤ 16777216 := by
  have h1 := showN_size V hV t (ks.filter okK) (us.filter okU) hg hv
  have hlen : (showN t (ks.filter okK) (us.filter okU)).length ≤ 2 * n := by
    by_cases ht : t = .nil
    · subst ht; simp [showN]
    · have := showN_len t (ks.filter okK) (us.filter okU) hg ht
      omega
  have h2 := Nat.mul_le_mul_right (80 + V) hlen
  have h3 := vsize_le (showN t (ks.filter okK) (us.filter okU)).length (by omega)
  unfold showTx
  rw [Nd.bytes, ByteArray.size_append, ByteArray.size_append]
  have : (nb 108).size = 1 := rfl
  omega
end Go.Abs

/- The law's two pairs, shown in part. -/
namespace Go.Abs
open Go
def av3 : ByteArray := ⟨#[51]⟩
def aP0 : PT := .fork 6 bf (.leaf ba av1) (.stub (T.leaf bb av2).hash)
def aP1 : PT := .fork 6 bf (.leaf ba av3) (.stub (T.leaf bb av2).hash)
theorem aw_common : common bf ba = 7 := by kernel_rfl
theorem aw_common2 : common ba bf = 7 := by kernel_rfl
theorem aw_common3 : common bf bb = 6 := by kernel_rfl
theorem aw_bit : bit ba 6 = false := by kernel_rfl
theorem aw_bit2 : bit bb 6 = true := by kernel_rfl
theorem aw_okK : [ba].filter okK = [ba] := by rfl
theorem aw_leadF : [ba].filter (leadK 6 bf false) = [ba] := by
  have : leadK 6 bf false ba = true := by unfold leadK; rw [aw_common2, aw_bit]; rfl
  rw [List.filter_cons, if_pos this]; rfl
theorem aw_leadT : [ba].filter (leadK 6 bf true) = [] := by
  have : ¬ leadK 6 bf true ba = true := by unfold leadK; rw [aw_common2, aw_bit]; decide
  rw [List.filter_cons, if_neg this]; rfl
theorem aw_part : partOf at2 [ba] [] = some aP0 := by
  show some (prune at2 ([ba].filter okK) ([].filter okU)) = _
  rw [aw_okK]
  show some (prune (.fork 6 bf (.leaf ba av1) (.leaf bb av2)) [ba] []) = _
  rw [prune, aw_leadF, aw_leadT]
  rfl
theorem aw_get : aP0.get ba = some (some av1) := by
  rw [aP0, PT.get, aw_common, if_neg (by decide), if_pos aw_bit]; rfl
theorem aw_getb : aP0.get bb = none := by
  rw [aP0, PT.get, aw_common3, if_neg (by decide), if_neg (by rw [aw_bit2]; decide)]; rfl
theorem aw_put : aP0.put ba av3 = some aP1 := by
  rw [aP0, PT.put, aw_common, if_neg (by decide), if_pos aw_bit]; rfl
theorem aw_root : aP1.hash = (at2.put ba av3).1.hash := by
  have h : Pru aP0 at2 := by
    have := prune_pru at2 ([ba].filter okK) ([].filter okU)
    have e := aw_part
    have e : some (prune at2 ([ba].filter okK) ([].filter okU)) = some aP0 := e
    rwa [Option.some.inj e] at this
  exact (h.put rfl at2_good _ aw_put).hash
theorem aw_vals : ∀ p ∈ at2.pairs, p.2.size < 268435456 := by
  intro p hp
  have : p = (ba, av1) ∨ p = (bb, av2) := by simpa [at2, T.pairs] using hp
  rcases this with rfl | rfl <;> decide
theorem aw_ok : aP0.ok := by
  have h := prune_ok at2 ([ba].filter okK) ([].filter okU) at2_good aw_vals
  have e : some (prune at2 ([ba].filter okK) ([].filter okU)) = some aP0 := aw_part
  rwa [Option.some.inj e] at h
theorem aw_size : (showTx at2 [ba] []).size ≤ 16777216 := by
  refine showTx_size at2_good (V := 100) (by decide) (fun p hp => ?_) (n := 2) (Nat.le_refl _) (by decide) (by decide) _ _
  have : p = (ba, av1) ∨ p = (bb, av2) := by simpa [at2, T.pairs] using hp
  rcases this with rfl | rfl <;> decide
end Go.Abs
