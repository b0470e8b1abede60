/- A part of the proof of a seat of parts: AbsOp5, AbsOp6, AbsOp7, AbsOp8, AbsOp9. -/
import Derived.Test.YtmfilaagpobmbaaGreatDoorA1
set_option linter.all false
namespace Go.Abs
open Go
set_option linter.unusedSimpArgs false

section
variable {P : Program} {E : Env}

def Gh.kill (g : Gh) (id : Nat) : Gh := ⟨fun b => g.imm b ∨ ∃ r ∈ g.own id, r.blk = b, g.own⟩

/-- a block is the frame's no more: what it holds may be read for ever -/
theorem sim_kill {w : World} {g : Gh} {H : List Blk} {id : Nat} {B : Blk} (hs : Sim E w g H) (hid : H[id]? = some B) (hl : B.live = true) :
    Sim E w (g.kill id) (H.set id .dead) ∧ Step w g H w (g.kill id) (H.set id .dead) := by
  have hlt : id < H.length := (List.getElem?_eq_some_iff.1 hid).1
  have hget : ∀ (j : Nat) (C : Blk), (H.set id .dead)[j]? = some C → C.live = true → j ≠ id ∧ H[j]? = some C := by
    intro j C h hc
    rw [List.getElem?_set] at h
    by_cases e : id = j
    · rw [if_pos e] at h; simp [hlt] at h; subst h; simp [Blk.live] at hc
    · rw [if_neg e] at h; exact ⟨fun e' => e e'.symm, h⟩
  have hrd : ∀ iv v, Rd w g.imm iv v → Rd w (g.kill id).imm iv v := fun iv v h => h.keep (fun _ h => .inl h) (fun _ _ => rfl)
  have hown : ∀ b, Owned (g.kill id) (H.set id .dead) b → Owned g H b ∧ ¬ ∃ r ∈ g.own id, r.blk = b := by
    rintro b ⟨j, C, q1, q2, q, q3, q4⟩
    obtain ⟨k1, k2⟩ := hget j C q1 q2
    refine ⟨⟨j, C, k2, q2, q, q3, q4⟩, ?_⟩
    rintro ⟨r, hr, hrb⟩
    exact k1 (hs.dis j C id B q r k2 q2 hid hl q3 hr (q4.trans hrb.symm)).1
  refine ⟨⟨?_, ?_, ?_, ?_, ?_, ?_⟩, ⟨rfl, rfl, rfl, Nat.le_refl _, fun _ _ _ => rfl, fun _ h => .inl h, ?_, fun b hb => .inl (hown b hb).1⟩⟩
  · intro j C hj
    cases hc : C.live with
    | true =>
      obtain ⟨_, k2⟩ := hget j C hj hc
      exact BlkR.keep (g := g) (g' := g.kill id) hrd (.of_eq rfl) rfl (fun _ _ _ => rfl) (hs.blk j C k2)
    | false => cases C <;> simp [Blk.live] at hc; trivial
  · intro j1 C1 j2 C2 q q' a1 a2 a3 a4 a5 a6 a7
    exact hs.dis j1 C1 j2 C2 q q' (hget j1 C1 a1 a2).2 a2 (hget j2 C2 a3 a4).2 a4 a5 a6 a7
  · intro b hb hi
    obtain ⟨k1, k2⟩ := hown b hb
    rcases hi with hi | hi
    · exact hs.imm b k1 hi
    · exact k2 hi
  · rintro b (hb | ⟨r, hr, rfl⟩)
    · exact hs.lt b hb
    · exact blk_lt (hs.blk id B hid) hl hr
  · intro j hj; exact hs.nil j (by simpa using hj)
  · intro k cells hk; exact hrd _ _ (hs.glob k cells hk)
  · rintro b (hb | ⟨r, hr, rfl⟩)
    · exact .inl hb
    · exact .inr (.inl ⟨id, B, hid, hl, r, hr, rfl⟩)

def FrzOk (E : Env) (f : List Blk → A1 → Option (IV × List Blk)) : Prop :=
  ∀ {w : World} {g : Gh} {H : List Blk} {a : A1} {v : Value} {iv : IV} {H' : List Blk}, Sim E w g H → A1R w g a v → f H a = some (iv, H') →
    ∃ g', g'.own = g.own ∧ Sim E w g' H' ∧ Step w g H w g' H' ∧ Rd w g'.imm iv v ∧ H'.length = H.length

theorem frzL_sound {f : List Blk → A1 → Option (IV × List Blk)} (hf : FrzOk E f) : ∀ (l : List A1) {w : World} {g : Gh} {H : List Blk} {m : List Value} {vs : List IV} {H' : List Blk}, Sim E w g H → L2 (A1R w g) l m → frzL f l H = some (vs, H') →
    ∃ g', g'.own = g.own ∧ Sim E w g' H' ∧ Step w g H w g' H' ∧ L2 (Rd w g'.imm) vs m ∧ H'.length = H.length
  | [], w, g, H, m, vs, H', hs, hl, h => by
    simp [frzL] at h
    obtain ⟨rfl, rfl⟩ := h
    rw [hl.nil_inv]
    exact ⟨g, rfl, hs, .refl _ _ _, .nil, rfl⟩
  | a :: t, w, g, H, m, vs, H', hs, hl, h => by
    obtain ⟨b, m', rfl, hab, ht⟩ := hl.uncons
    simp only [frzL] at h
    cases h1 : f H a with
    | none => simp [h1] at h
    | some p =>
      obtain ⟨iv, H1⟩ := p
      simp only [h1] at h
      cases h2 : frzL f t H1 with
      | none => simp [h2] at h
      | some p =>
        obtain ⟨ivs, H2⟩ := p
        simp only [h2, Option.some.injEq, Prod.mk.injEq] at h
        obtain ⟨rfl, rfl⟩ := h
        obtain ⟨g1, o1, s1, st1, r1, l1⟩ := hf hs hab h1
        have hrd : ∀ iv v, Rd w g.imm iv v → Rd w g1.imm iv v := fun iv v h => Rd.step hs st1 h
        obtain ⟨g2, o2, s2, st2, r2, l2⟩ := frzL_sound hf t s1 (ht.mono fun _ _ h => A1R.keep hrd (.of_eq o1) h) h2
        exact ⟨g2, o2.trans o1, s2, st1.trans st2, .cons (Rd.step s1 st2 r1) r2, l2.trans l1⟩

theorem frz_sound : ∀ n, FrzOk E (frz n)
  | 0, w, g, H, a, v, iv, H', hs, ha, h => by simp [frz] at h
  | n + 1, w, g, H, a, v, iv, H', hs, ha, h => by
    unfold frz at h
    split at h
    · simp at h; obtain ⟨rfl, rfl⟩ := h; exact ⟨g, rfl, hs, .refl _ _ _, ha, rfl⟩
    · simp at h; obtain ⟨rfl, rfl⟩ := h
      have : v = .slice none 0 0 := ha
      subst this
      exact ⟨g, rfl, hs, .refl _ _ _, .lst [] none 0 0 0 (fun _ _ => undef) rfl (Nat.le_refl _) (by simp) (.inl rfl) (by simp), rfl⟩
    · simp at h; obtain ⟨rfl, rfl⟩ := h
      obtain ⟨a, rfl⟩ := ha
      exact ⟨g, rfl, hs, .refl _ _ _, .lst [] a 0 0 0 (fun _ _ => undef) rfl (Nat.le_refl _) (by simp) (.inl rfl) (by simp), rfl⟩
    · rename_i id
      split at h
      · rename_i l ot hl
        have hid := getD_get hl (by simp)
        cases h1 : frzL (frz n) l (H.set id .dead) with
        | none => simp [h1] at h
        | some p =>
          obtain ⟨vs, H1⟩ := p
          simp only [h1, Option.some.injEq, Prod.mk.injEq] at h
          obtain ⟨rfl, rfl⟩ := h
          obtain ⟨s1, st1⟩ := sim_kill hs hid rfl
          obtain ⟨b, c, ty, fz, ho, hb, hu, hL, hty⟩ := hs.blk id _ hid
          obtain ⟨r, hr, rfl⟩ := ha
          rw [ho] at hr
          simp at hr
          subst hr
          have hrd : ∀ iv v, Rd w g.imm iv v → Rd w (g.kill id).imm iv v := fun iv v h => Rd.step hs st1 h
          obtain ⟨g2, o2, s2, st2, r2, l2⟩ := frzL_sound (frz_sound n) l s1 (hL.mono fun _ _ h => A1R.keep (g := g) (g' := g.kill id) hrd (.of_eq rfl) h) h1
          refine ⟨g2, o2, s2, st1.trans st2, ?_, by simpa using l2⟩
          refine .ptr vs b 0 (fun i => (c[i]?).getD undef) (fun _ => st2.immMono _ (.inr ⟨⟨b, 0, 0, 1, l.length⟩, by rw [ho]; simp, rfl⟩)) (fun i hi => ?_) (fun i x hx => ?_)
          · have hlen := r2.1
            simp at hlen
            rw [Nat.zero_add, cell_of hb, Array.getElem?_eq_getElem (by omega)]; rfl
          · obtain ⟨u, hu1, hu2⟩ := r2.2 i x hx
            have : c[i]? = some u := by simpa using hu1
            rw [this]; exact hu2
      · simp at h
    · rename_i id off len
      split at h
      · rename_i sz elems gr _ hl
        simp only [Option.some.injEq, Prod.mk.injEq] at h
        obtain ⟨rfl, rfl⟩ := h
        have hid := getD_get hl (by simp)
        obtain ⟨s1, st1⟩ := sim_kill hs hid rfl
        obtain ⟨hes, r0, rs, ho, hn, hg, hlt, hv⟩ := hs.blk id _ hid
        obtain ⟨r, hr, a, cap, rfl, h1, h2, h3, h4, h5⟩ := ha
        have hver := hv r (by rw [← ho]; exact hr)
        obtain ⟨c, ty, fz, hb, hu, hcs, _, hm⟩ := hver.mem
        have hrd : ∀ iv v, Rd w g.imm iv v → Rd w (g.kill id).imm iv v := fun iv v h => Rd.step hs st1 h
        refine ⟨g.kill id, rfl, s1, st1, ?_, by simp⟩
        have hlen : ((elems.drop off).take len).length = len := by
          simp; have := hver.le; omega
        have hget : ∀ (i : Nat) e, ((elems.drop off).take len)[i]? = some e → i < len ∧ elems[off + i]? = some e := by
          intro i e he
          rw [List.getElem?_take] at he
          split at he
          · rw [List.getElem?_drop] at he; exact ⟨‹_›, he⟩
          · simp at he
        refine .lst _ (some a) len cap sz (fun i j => (c[(off - r.start + i) * sz + j]?).getD undef) hlen.symm h4 (fun i e he => hes e (List.mem_of_getElem? (hget i e he).2)) ?_ (fun i j e x he hx => ?_)
        · rcases h5 with h5 | h5
          · left
            apply List.eq_nil_of_length_eq_zero
            rw [hlen]; omega
          · right
            refine ⟨r.blk, (off - r.start) * r.sz, by rw [h5], .inr ⟨r, hr, rfl⟩, fun i j hi hj => ?_⟩
            rw [hlen] at hi
            rw [cell_of hb, hver.hz, show (off - r.start) * sz + (i * sz + j) = (off - r.start + i) * sz + j by rw [Nat.add_mul]; omega]
            have hi2 : off + i < elems.length := by have := hver.le; omega
            have hel : (elems[off + i]).length = sz := hes _ (List.getElem_mem hi2)
            obtain ⟨u, hu1, _⟩ := hm (off + i) elems[off + i] (by omega) (by omega) (List.getElem?_eq_getElem hi2) j (elems[off + i][j]'(by omega)) (List.getElem?_eq_getElem (by omega))
            rw [show off + i - r.start = off - r.start + i by omega] at hu1
            rw [hu1]; rfl
        · obtain ⟨hi, he'⟩ := hget i e he
          obtain ⟨u, hu1, hu2⟩ := hm (off + i) e (by omega) (by omega) he' j x hx
          rw [show off + i - r.start = off - r.start + i by omega] at hu1
          show Rd w _ x ((c[(off - r.start + i) * sz + j]?).getD undef)
          rw [hu1]; exact hrd _ _ hu2
      · simp at h
    · simp at h

theorem frzV_sound {w : World} {g : Gh} {H : List Blk} (hs : Sim E w g H) {x y : AV} {v : Value} (hx : AVR0 w g x v) {H' : List Blk} (h : frzV H x = some (y, H')) :
    ∃ g', g'.own = g.own ∧ Sim E w g' H' ∧ Step w g H w g' H' ∧ AVR0 w g' y v ∧ H'.length = H.length := by
  unfold frzV at h
  split at h
  · rename_i a
    cases h1 : frz frzDepth H a with
    | none => simp [h1] at h
    | some p =>
      obtain ⟨iv, H1⟩ := p
      simp only [h1, Option.some.injEq, Prod.mk.injEq] at h
      obtain ⟨rfl, rfl⟩ := h
      exact frz_sound frzDepth hs hx h1
  · rename_i l
    cases h1 : frzL (frz frzDepth) l H with
    | none => simp [h1] at h
    | some p =>
      obtain ⟨ivs, H1⟩ := p
      simp only [h1, Option.some.injEq, Prod.mk.injEq] at h
      obtain ⟨rfl, rfl⟩ := h
      obtain ⟨cs, rfl, hL⟩ := hx
      obtain ⟨g', k1, k2, k3, k4, k5⟩ := frzL_sound (frz_sound frzDepth) l hs hL h1
      exact ⟨g', k1, k2, k3, ⟨cs, rfl, L2.map.2 k4⟩, k5⟩
  · simp only [Option.some.injEq, Prod.mk.injEq] at h
    obtain ⟨rfl, rfl⟩ := h
    exact ⟨g, rfl, hs, .refl _ _ _, hx, rfl⟩
  · simp at h

theorem frzVs_sound : ∀ (l : List AV) {w : World} {g : Gh} {H : List Blk} {m : List Value} {vs : List AV} {H' : List Blk}, Sim E w g H → L2 (AVR0 w g) l m → frzVs l H = some (vs, H') →
    ∃ g', g'.own = g.own ∧ Sim E w g' H' ∧ Step w g H w g' H' ∧ L2 (AVR0 w g') vs m ∧ H'.length = H.length
  | [], w, g, H, m, vs, H', hs, hl, h => by
    simp [frzVs] at h
    obtain ⟨rfl, rfl⟩ := h
    rw [hl.nil_inv]
    exact ⟨g, rfl, hs, .refl _ _ _, .nil, rfl⟩
  | a :: t, w, g, H, m, vs, H', hs, hl, h => by
    obtain ⟨b, m', rfl, hab, ht⟩ := hl.uncons
    simp only [frzVs] at h
    cases h1 : frzV H a with
    | none => simp [h1] at h
    | some p =>
      obtain ⟨iv, H1⟩ := p
      simp only [h1] at h
      cases h2 : frzVs t H1 with
      | none => simp [h2] at h
      | some p =>
        obtain ⟨ivs, H2⟩ := p
        simp only [h2, Option.some.injEq, Prod.mk.injEq] at h
        obtain ⟨rfl, rfl⟩ := h
        obtain ⟨g1, o1, s1, st1, r1, l1⟩ := frzV_sound hs hab h1
        have hrd : ∀ iv v, Rd w g.imm iv v → Rd w g1.imm iv v := fun iv v h => Rd.step hs st1 h
        obtain ⟨g2, o2, s2, st2, r2, l2⟩ := frzVs_sound t s1 (ht.mono fun _ _ h => AVR0.keep hrd (.of_eq o1) h) h2
        exact ⟨g2, o2.trans o1, s2, st1.trans st2, .cons (AVR0.keep (fun iv v h => Rd.step s1 st2 h) (.of_eq o2) r1) r2, l2.trans l1⟩

theorem frzR_sound {w : World} {g : Gh} {H : List Blk} (hs : Sim E w g H) {x y : AV} {v : Value} (hx : AVR w g x v) {H' : List Blk} (h : frzR H x = some (y, H')) :
    ∃ g', g'.own = g.own ∧ Sim E w g' H' ∧ Step w g H w g' H' ∧ AVR w g' y v ∧ H'.length = H.length := by
  unfold frzR at h
  split at h
  · rename_i l
    cases h1 : frzVs l H with
    | none => simp [h1] at h
    | some p =>
      obtain ⟨ivs, H1⟩ := p
      simp only [h1, Option.some.injEq, Prod.mk.injEq] at h
      obtain ⟨rfl, rfl⟩ := h
      obtain ⟨cs, rfl, hL⟩ := hx
      obtain ⟨g', k1, k2, k3, k4, k5⟩ := frzVs_sound l hs hL h1
      exact ⟨g', k1, k2, k3, ⟨cs, rfl, k4⟩, k5⟩
  · rename_i x hnt
    obtain ⟨g', k1, k2, k3, k4, k5⟩ := frzV_sound hs (hx.to0 fun l e => hnt l e) h
    exact ⟨g', k1, k2, k3, .of0 k4, k5⟩

end
end Go.Abs

namespace Go.Abs
open Go
set_option linter.unusedSimpArgs false

section
variable {P : Program} {E : Env}

/-- a result that leaves the world alone -/
def Gives (w : World) (g : Gh) (s : Sem Value) (P : Program) (K : AV → Prop) : Prop := ∃ av v, K av ∧ s.run P w = .ok v w ∧ AVR w g av v

theorem gives {w : World} {g : Gh} {s : Sem Value} {K : AV → Prop} (av : AV) (v : Value) (hk : K av) (hr : s.run P w = .ok v w) (ha : AVR w g av v) : Gives w g s P K := ⟨av, v, hk, hr, ha⟩

theorem rd_int {w : World} {I : Nat → Prop} {k : IntKind} {n : Int} {v : Value} (h : Rd w I (.int k n) v) : v = .int k n := by cases h; rfl
theorem rd_bool {w : World} {I : Nat → Prop} {b : Bool} {v : Value} (h : Rd w I (.bool b) v) : v = .bool b := by cases h; rfl
theorem rd_str {w : World} {I : Nat → Prop} {s : ByteArray} {v : Value} (h : Rd w I (.str s) v) : v = .string s := by cases h; rfl
theorem rd_nilp {w : World} {I : Nat → Prop} {v : Value} (h : Rd w I .nilp v) : v = .pointer none := by cases h; rfl

theorem td_bool (hT : TyOk P E) {t : Nat} (h : (E.td t).k = .bool) : P.underlying t = some .bool := by
  obtain ⟨i, d, _, h2, h3⟩ := td_inv hT (t := t) (.inr (by rw [h]; simp))
  rw [h3] at h; cases d <;> simp [tdIn] at h; exact h2
theorem td_ptr (hT : TyOk P E) {t e : Nat} (h : (E.td t).k = .ptr e) : P.underlying t = some (.pointer (P.pointee t)) := by
  obtain ⟨i, d, _, h2, h3⟩ := td_inv hT (t := t) (.inr (by rw [h]; simp))
  rw [h3] at h; cases d <;> simp [tdIn] at h; simp [Program.pointee, h2]

theorem eqGuard_plain (w : World) (op : BinOp) (t : TypeId) (x y : Operand) (a b : Value) (ha : a ≠ .nilIface) (hg : ∀ c, a ≠ .agg c) : (eqGuard op t x y a b).run P w = .ok () w := by
  cases op <;> simp only [eqGuard, Bool.not_true, Bool.not_false, if_true, if_false, Bool.false_eq_true, Sem.run_pure]
  all_goals cases a <;> simp_all

theorem binInt_sound {w : World} {g : Gh} {op : BinOp} {t : TypeId} {k k' : IntKind} {a b : Int} {K : AV → Prop} (hk : (isShift op || kindEq k k') = true) (h : binInt op k a b K) :
    Gives w g (binOp op t (.int k a) (.int k' b)) P K := by
  have hkk : isShift op = false → k = k' := by
    intro hs; rw [hs, Bool.false_or] at hk; revert hk; cases k <;> cases k' <;> simp [kindEq]
  cases op <;> simp only [binInt] at h
  case add => obtain rfl := hkk rfl; exact gives _ _ h (by simp [binOp, Op.intArith]) (.int _ _)
  case sub => obtain rfl := hkk rfl; exact gives _ _ h (by simp [binOp, Op.intArith]) (.int _ _)
  case mul => obtain rfl := hkk rfl; exact gives _ _ h (by simp [binOp, Op.intArith]) (.int _ _)
  case quo => obtain rfl := hkk rfl; exact gives _ _ h.2 (by simp [binOp, Op.intDiv, h.1]) (.int _ _)
  case rem => obtain rfl := hkk rfl; exact gives _ _ h.2 (by simp [binOp, Op.intDiv, h.1]) (.int _ _)
  case and => obtain rfl := hkk rfl; exact gives _ _ h (by simp [binOp, Op.intBits, ibits]) (.int _ _)
  case or => obtain rfl := hkk rfl; exact gives _ _ h (by simp [binOp, Op.intBits, ibits]) (.int _ _)
  case xor => obtain rfl := hkk rfl; exact gives _ _ h (by simp [binOp, Op.intBits, ibits]) (.int _ _)
  case andNot => obtain rfl := hkk rfl; exact gives _ _ h (by simp [binOp, Op.intBits, ibits]) (.int _ _)
  case shl => exact gives _ _ h.2 (by simp [binOp, Op.shift, Int.not_lt.2 h.1]) (.int _ _)
  case shr => exact gives _ _ h.2 (by simp [binOp, Op.shift, Int.not_lt.2 h.1]) (.int _ _)
  case eql => obtain rfl := hkk rfl; exact gives _ _ h (by simp [binOp, Op.intCmp]) (.bool _)
  case neq => obtain rfl := hkk rfl; exact gives _ _ h (by simp [binOp, Op.intCmp]) (.bool _)
  case lss => obtain rfl := hkk rfl; exact gives _ _ h (by simp [binOp, Op.intCmp]) (.bool _)
  case leq => obtain rfl := hkk rfl; exact gives _ _ h (by simp [binOp, Op.intCmp]) (.bool _)
  case gtr => obtain rfl := hkk rfl; exact gives _ _ h (by simp [binOp, Op.intCmp]) (.bool _)
  case geq => obtain rfl := hkk rfl; exact gives _ _ h (by simp [binOp, Op.intCmp]) (.bool _)

theorem binStr_sound {w : World} {g : Gh} {op : BinOp} {t : TypeId} {a b : ByteArray} {K : AV → Prop} (h : binStr op a b K) :
    Gives w g (binOp op t (.string a) (.string b)) P K := by
  cases op <;> simp only [binStr] at h
  case add =>
    refine gives _ _ h.2 ?_ (.str _)
    have h1 := h.1
    have : ¬ (((a.size + b.size : Nat) : Int) > IntKind.i64.max) := by
      have e : IntKind.i64.max = 9223372036854775807 := by decide
      rw [e]; omega
    simp only [binOp, Op.stringOp, if_neg this]
    rfl
  case eql => exact gives _ _ h (by simp [binOp, Op.stringOp]) (.bool _)
  case neq => exact gives _ _ h (by simp [binOp, Op.stringOp]) (.bool _)
  case lss => exact gives _ _ h (by simp [binOp, Op.stringOp]) (.bool _)
  case leq => exact gives _ _ h (by simp [binOp, Op.stringOp]) (.bool _)
  case gtr => exact gives _ _ h (by simp [binOp, Op.stringOp]) (.bool _)
  case geq => exact gives _ _ h (by simp [binOp, Op.stringOp]) (.bool _)
  all_goals exact h.elim

theorem isNilEq_sound {w : World} {g : Gh} {op : BinOp} {t : TypeId} {a b : Value} {r : Bool} {K : AV → Prop} (h : isNilEq op r K)
    (he : (Op.equal t a b).run P w = .ok r w) (h1 : ∀ o, o = .eql ∨ o = .neq → binOp o t a b = (match o with | .eql => do pure (.bool (← Op.equal t a b)) | _ => do pure (.bool (!(← Op.equal t a b))))) :
    Gives w g (binOp op t a b) P K := by
  cases op <;> simp only [isNilEq] at h
  case eql => exact gives _ _ h (by rw [h1 _ (.inl rfl)]; simp [he, Result.andThen]) (.bool _)
  case neq => exact gives _ _ h (by rw [h1 _ (.inr rfl)]; simp [he, Result.andThen]) (.bool _)
  all_goals exact h.elim

theorem has_mem : ∀ {l : List Nat} {x : Nat}, has l x = true → x ∈ l
  | [], x, h => by simp [has] at h
  | a :: t, x, h => by
    unfold has at h
    split at h
    · rename_i e; rw [Nat.eq_of_beq_eq_true e]; simp
    · exact List.mem_cons_of_mem _ (has_mem h)

/-- the types whose values may be compared whole -/
def EqOk (P : Program) (E : Env) : Prop := ∀ t, t ∈ E.eqs → P.stoodInHeld t = false ∧ P.eqGuardType P.depth t = false ∧ ∀ f ∈ (P.fieldsOf t).toList, f.name ≠ "_"

theorem kindEq_eq {k k' : IntKind} (h : kindEq k k' = true) : k = k' := by revert h; cases k <;> cases k' <;> simp [kindEq]

theorem eqCell_sound (hT : TyOk P E) {w : World} {I : Nat → Prop} {t d : Nat} {a b : IV} {u v : Value} {r : Bool} (ha : Rd w I a u) (hb : Rd w I b v) (h : eqCell (E.td t).k a b = some r) :
    (Op.equalIn (d + 1) t u v).run P w = .ok r w := by
  unfold eqCell at h
  split at h
  · rename_i hk
    obtain ⟨i, D, _, h2, h3⟩ := td_inv hT (t := t) (.inr (by rw [hk]; simp))
    rw [h3] at hk
    have : P.underlying t = some .bool := by cases D <;> simp [tdIn] at hk; exact h2
    rw [rd_bool ha, rd_bool hb]
    simp at h; subst h
    exact run_equalIn_bool' w d t _ _ this
  · rename_i hk
    rw [rd_int ha, rd_int hb]
    split at h
    · obtain rfl := kindEq_eq ‹_›
      simp only [Option.some.injEq] at h; subst h
      exact run_equalIn_int w d t _ _ _ _ (td_int hT hk)
    · simp at h
  · rename_i hk
    rw [rd_str ha, rd_str hb]
    simp at h; subst h
    exact run_equalIn_string w d t _ _ (td_str hT hk)
  · simp at h

theorem run_part_one (hT : TyOk P E) {w : World} {t o : Nat} {cs : Array Value} {v : Value} (hs : (E.td t).size = 1) (hk : ∀ n e fs, (E.td t).k ≠ .array n e ∧ (E.td t).k ≠ .struct fs) (hv : cs[o]? = some v) : (part t cs o).run P w = .ok v w := by
  have ha : (E.td t).agg = false := by
    obtain ⟨i, D, _, h2, h3⟩ := td_inv hT (t := t) (.inl (by omega))
    rw [h3] at hk ⊢
    cases D <;> simp [tdIn] at hk ⊢
  simp only [part, Sem.run_bind, run_isAgg_td hT (t := t) (by omega) w, Result.andThen, ha, Bool.false_eq_true, if_false, hv, Sem.run_pure]

theorem eqCell_plain {k : TK} {a b : IV} {r : Bool} (h : eqCell k a b = some r) : ∀ n e fs, k ≠ .array n e ∧ k ≠ .struct fs := by
  intro n e fs
  unfold eqCell at h
  split at h <;> simp_all

theorem eqFs_sound (hT : TyOk P E) {w : World} {I : Nat → Prop} {d : Nat} {xs ys : Array Value} : ∀ (gs : List Field) (i : Nat) (as bs : List IV) (r : Bool), (∀ f ∈ gs, f.name ≠ "_") →
    L2 (Rd w I) as (xs.toList.drop i) → L2 (Rd w I) bs (ys.toList.drop i) → eqFs E i (gs.map fun f => (f.offset, f.type)) as bs = some r → (Op.eqFields (d + 1) xs ys gs).run P w = .ok r w := by
  intro gs
  induction gs with
  | nil =>
    intro i as bs r _ ha hb h
    simp only [List.map_nil] at h
    unfold eqFs at h
    split at h <;> simp_all [Op.eqFields]
  | cons f gs ih =>
    intro i as bs r hn ha hb h
    have step : ∀ a s b u (x y : Bool), as = a :: s → bs = b :: u → f.offset = i → (E.td f.type).size = 1 → eqCell (E.td f.type).k a b = some x → ((Op.eqFields (d + 1) xs ys gs).run P w = .ok y w) → (Op.eqFields (d + 1) xs ys (f :: gs)).run P w = .ok (x && y) w := by
      intro a s b u x y e1 e2 h1 h2 h3 h4
      subst e1 e2
      obtain ⟨va, _, k1, k2, _⟩ := ha.uncons
      obtain ⟨vb, _, k3, k4, _⟩ := hb.uncons
      have p1 : xs[f.offset]? = some va := by rw [h1]; have := congrArg (·[0]?) k1; simpa using this
      have p2 : ys[f.offset]? = some vb := by rw [h1]; have := congrArg (·[0]?) k3; simpa using this
      have hpl := eqCell_plain h3
      simp only [Op.eqFields, if_pos (hn f (by simp)), Sem.run_bind, run_part_one hT h2 hpl p1, run_part_one hT h2 hpl p2, Result.andThen, eqCell_sound hT k2 k4 h3, Sem.run_ite, Sem.run_pure, h4]
      cases x <;> simp
    rw [List.map_cons] at h
    unfold eqFs at h
    split at h
    · simp_all
    · rename_i i o t a b hl
      simp only [List.cons.injEq, Prod.mk.injEq, List.map_eq_nil_iff] at hl
      obtain ⟨⟨rfl, rfl⟩, rfl⟩ := hl
      split at h
      · rename_i hb1
        simp only [Bool.and_eq_true] at hb1
        have := step a [] b [] r true rfl rfl (Nat.eq_of_beq_eq_true hb1.1) (Nat.eq_of_beq_eq_true hb1.2) h (by simp [Op.eqFields])
        simpa using this
      · simp at h
    · rename_i i o t rr a s b u _ hl
      simp only [List.cons.injEq, Prod.mk.injEq] at hl
      obtain ⟨⟨rfl, rfl⟩, rfl⟩ := hl
      split at h
      · rename_i x y hb1 hb2 hb3
        simp only [Bool.and_eq_true] at hb1
        simp only [Option.some.injEq] at h
        subst h
        obtain ⟨va, ma, k1, k2, k5⟩ := ha.uncons
        obtain ⟨vb, mb, k3, k4, k6⟩ := hb.uncons
        exact step a s b u x y rfl rfl (Nat.eq_of_beq_eq_true hb1.1) (Nat.eq_of_beq_eq_true hb1.2) hb2 (ih _ s u y (fun f hf => hn f (by simp [hf])) (by rw [← List.tail_drop, k1]; exact k5) (by rw [← List.tail_drop, k3]; exact k6) hb3)
      · simp at h
    · simp at h

theorem equalIn_slice_nil {w : World} {t e : Nat} (h : P.underlying t = some (.slice e)) (d : Nat) (a : Option Addr) (n c : Nat) : (Op.equalIn (d + 1) t (.slice a n c) (.slice none 0 0)).run P w = .ok a.isNone w := by
  cases a <;> simp [Op.equalIn, run_underlying h]

theorem equal_slice_nil {w : World} {t e : Nat} (h : P.underlying t = some (.slice e)) (a : Option Addr) (n c : Nat) : (Op.equal t (.slice a n c) (.slice none 0 0)).run P w = .ok a.isNone w :=
  equalIn_slice_nil h 9999 a n c

theorem aBin_sound (hT : TyOk P E) (hE : EqOk P E) {w : World} {g : Gh} {op : BinOp} {t : TypeId} {x y : AV} {u v : Value} {ox oy : Operand} {K : AV → Prop} (hx : AVR w g x u) (hy : AVR w g y v) (h : aBin E op t x y K) :
    Gives w g (do eqGuard op t ox oy u v; binOp op t u v) P K := by
  have lift : u ≠ .nilIface → (∀ c, u ≠ .agg c) → Gives w g (binOp op t u v) P K → Gives w g (do eqGuard op t ox oy u v; binOp op t u v) P K := by
    rintro h1 h2 ⟨av, r, k1, k2, k3⟩
    exact ⟨av, r, k1, by rw [Sem.run_bind, eqGuard_plain w op t ox oy u v h1 h2]; exact k2, k3⟩
  unfold aBin at h
  split at h
  · split at h
    · rename_i hk
      have e1 := rd_int hx; have e2 := rd_int hy; subst e1 e2
      exact lift (by simp) (by simp) (binInt_sound hk h)
    · exact h.elim
  · have e1 := rd_str hx; have e2 := rd_str hy; subst e1 e2
    exact lift (by simp) (by simp) (binStr_sound h)
  · have e1 := rd_bool hx; have e2 := rd_bool hy; subst e1 e2
    split at h
    · rename_i hk
      exact lift (by simp) (by simp) (isNilEq_sound h (run_equal_bool w t _ _ (td_bool hT hk)) (by rintro o (rfl | rfl) <;> rfl))
    · exact h.elim
  · have e1 := rd_nilp hx; have e2 := rd_nilp hy; subst e1 e2
    split at h
    · rename_i hk
      exact lift (by simp) (by simp) (isNilEq_sound h (by rw [run_equal_pointer_nil w t _ (td_ptr hT hk)]; rfl) (by rintro o (rfl | rfl) <;> rfl))
    · exact h.elim
  · have e2 := rd_nilp hy; subst e2
    cases hx
    split at h
    · rename_i hk
      exact lift (by simp) (by simp) (isNilEq_sound h (by rw [run_equal_pointer_nil w t _ (td_ptr hT hk)]; rfl) (by rintro o (rfl | rfl) <;> rfl))
    · exact h.elim
  · have e2 := rd_nilp hy; subst e2
    obtain ⟨r, hr, rfl⟩ := hx
    split at h
    · rename_i hk
      exact lift (by simp) (by simp) (isNilEq_sound h (by rw [run_equal_pointer_nil w t _ (td_ptr hT hk)]; rfl) (by rintro o (rfl | rfl) <;> rfl))
    · exact h.elim
  · have e1 : u = .slice none 0 0 := hx
    have e2 : v = .slice none 0 0 := hy
    subst e1 e2
    split at h
    · rename_i hk
      exact lift (by simp) (by simp) (isNilEq_sound h (equal_slice_nil (td_slice hT hk) _ _ _) (by rintro o (rfl | rfl) <;> rfl))
    · exact h.elim
  · have e2 : v = .slice none 0 0 := hy
    subst e2
    obtain ⟨r, hr, a, cap, rfl, _⟩ := hx
    split at h
    · rename_i hk
      exact lift (by simp) (by simp) (isNilEq_sound h (equal_slice_nil (td_slice hT hk) _ _ _) (by rintro o (rfl | rfl) <;> rfl))
    · exact h.elim
  · have e2 : v = .slice none 0 0 := hy
    subst e2
    cases hx with
    | lst _ a n cap sz c hn hcap hsz ha hr =>
      rcases ha with ha | ⟨b, off, rfl, _⟩
      · cases ha
      · split at h
        · rename_i hk
          exact lift (by simp) (by simp) (isNilEq_sound h (equal_slice_nil (td_slice hT hk) _ _ _) (by rintro o (rfl | rfl) <;> rfl))
        · exact h.elim
  · split at h
    · rename_i a b ha hb
      obtain ⟨xs, rfl, hxs⟩ := hx
      obtain ⟨ys, rfl, hys⟩ := hy
      split at h
      · rename_i fs hk
        split at h
        · rename_i r hh hf
          obtain ⟨gs, hu, rfl⟩ := td_struct hT hk
          obtain ⟨h1, h2, h3⟩ := hE t (has_mem hh)
          have hfo : P.fieldsOf t = gs := by simp [Program.fieldsOf, hu]
          have hu' : P.underlying t = some (.struct (P.fieldsOf t)) := by rw [hfo]; exact hu
          rw [hfo] at h3
          have heq : (Op.equal t (.agg xs) (.agg ys)).run P w = .ok r w := by
            have := run_equalIn_struct (P := P) w 9999 t xs ys hu' h1
            rw [hfo] at this
            exact this.trans (eqFs_sound hT gs.toList 0 _ _ r h3 (by simpa using L2.imms ha hxs) (by simpa using L2.imms hb hys) hf)
          obtain ⟨av, q, k1, k2, k3⟩ := isNilEq_sound (g := g) h heq (by rintro o (rfl | rfl) <;> rfl)
          refine ⟨av, q, k1, ?_, k3⟩
          have hg : (eqGuard op t ox oy (.agg xs) (.agg ys)).run P w = .ok () w := by
            cases op <;> simp [eqGuard, h2, Result.andThen]
          rw [Sem.run_bind, hg]; exact k2
        · exact h.elim
      · exact h.elim
    · exact h.elim
  · exact h.elim

end
end Go.Abs

namespace Go.Abs
open Go
set_option linter.unusedSimpArgs false

section
variable {P : Program} {E : Env}

theorem aUn_sound {w : World} {g : Gh} {op : UnOp} {x : AV} {u : Value} {K : AV → Prop} (hx : AVR w g x u) (h : aUn op x K) : Gives w g (Op.unary op u) P K := by
  unfold aUn at h
  split at h
  · have e := rd_int hx; subst e; exact gives _ _ h (by simp [Op.unary, Op.intArith]) (.int _ _)
  · have e := rd_int hx; subst e; exact gives _ _ h (by simp [Op.unary, Op.intBits, ibits]) (.int _ _)
  · have e := rd_bool hx; subst e; exact gives _ _ h (by simp [Op.unary]) (.bool _)
  · exact h.elim

theorem aExtract_sound {w : World} {g : Gh} {x : AV} {u : Value} {i : Nat} {K : AV → Prop} (hx : AVR w g x u) (h : aExtract x i K) : Gives w g (Instr.extract u i) P K := by
  unfold aExtract at h
  split at h
  · obtain ⟨cs, rfl, hL⟩ := hx
    split at h
    · rename_i v hv
      obtain ⟨b, hb, hr⟩ := hL.2 i v hv
      have : cs[i]? = some b := by simpa using hb
      exact gives _ b h (by simp [Instr.extract, this]) (.of0 hr)
    · exact h.elim
  · exact h.elim

theorem aLen_sound (hT : TyOk P E) {w : World} {g : Gh} {x : AV} {u : Value} {t : Nat} {ts : Array Nat} {ty : Nat} {K : AV → Prop} (hts : ts[0]? = some t) (hx : AVR w g x u) (h : aLen E t x K) : Gives w g (Builtin.len_ ts ty #[u]) P K := by
  unfold aLen at h
  split at h
  · rename_i hk
    have e := rd_str hx; subst e
    exact gives _ _ h (by simp [Builtin.len_, hts, run_underlying (td_str hT hk), goInt]) (.int _ _)
  · rename_i n e hk
    exact gives _ _ h (by simp [Builtin.len_, hts, run_underlying (td_array hT hk), goInt]) (.int _ _)
  · rename_i e hk
    have e : u = .slice none 0 0 := hx
    subst e
    exact gives _ _ h (by simp [Builtin.len_, hts, run_underlying (td_slice hT hk), goInt]) (.int _ _)
  · rename_i e hk
    obtain ⟨a, rfl⟩ := hx
    exact gives _ _ h (by simp [Builtin.len_, hts, run_underlying (td_slice hT hk), goInt]) (.int _ _)
  · rename_i e l hk
    cases hx with
    | lst _ a n cap sz c hn hcap hsz ha hr =>
      subst hn
      exact gives _ _ h (by simp [Builtin.len_, hts, run_underlying (td_slice hT hk), goInt]) (.int _ _)
  · rename_i e id off n hk
    obtain ⟨r, hr, a, cap, rfl, _⟩ := hx
    exact gives _ _ h (by simp [Builtin.len_, hts, run_underlying (td_slice hT hk), goInt]) (.int _ _)
  · exact h.elim

/-- a field's place -/
theorem aField_sound (hT : TyOk P E) {s f : Nat} {K : Nat → TD → Prop} (h : aField E s f K) : ∃ (gs : Array Field) (fd : Field), P.underlying s = some (.struct gs) ∧ gs[f]? = some fd ∧ K fd.offset (E.td fd.type) := by
  unfold aField at h
  split at h
  · rename_i fs hk
    obtain ⟨gs, hu, rfl⟩ := td_struct hT hk
    split at h
    · rename_i o t hf
      simp only [List.getElem?_map, Option.map_eq_some_iff, Prod.mk.injEq] at hf
      obtain ⟨fd, h1, rfl, rfl⟩ := hf
      exact ⟨gs, fd, hu, by simpa using h1, h⟩
    · exact h.elim
  · exact h.elim

theorem run_fieldPlace (hT : TyOk P E) {w : World} {fd : Field} (hpos : 0 < (E.td fd.type).size) (b o : Nat) : (fieldPlace ⟨b, o, none⟩ fd).run P w = .ok ⟨b, o + fd.offset, none⟩ w := by
  simp only [fieldPlace, Sem.run_bind, run_sizeOf_td hT hpos w, Result.andThen, if_neg (show ¬ (E.td fd.type).size = 0 by omega), Sem.run_pure, Sem.run_ite, add_zero']

/-- one type's part of a row of cells -/
theorem part_cells (hT : TyOk P E) {w : World} {t o : Nat} {R : A1 → Value → Prop} {l : List A1} {cs : Array Value} (hL : L2 R l cs.toList) {K : AV → Prop} (h : ldCells (E.td t) (l.drop o) K) (hpos : 0 < (E.td t).size) :
    ∃ av v, K av ∧ (part t cs o).run P w = .ok v w ∧ ((∃ a, av = .one a ∧ R a v) ∨ (∃ l c, av = .agg l ∧ v = .agg c ∧ L2 R l c.toList)) := by
  have hag := run_isAgg_td hT hpos w
  unfold ldCells at h
  cases ha : (E.td t).agg with
  | true =>
    simp only [ha] at h
    split at h
    · rename_i hb
      have hle : (E.td t).size ≤ (l.drop o).length := Nat.le_of_ble_eq_true hb
      refine ⟨_, .agg (cs.extract o (o + (E.td t).size)), h, ?_, .inr ⟨_, _, rfl, rfl, ?_⟩⟩
      · simp only [part, Sem.run_bind, hag, ha, Result.andThen, if_true, run_sizeOf_td hT hpos w, Sem.run_pure]
      · have := (hL.drop o).take (E.td t).size
        rw [Array.toList_extract]
        simpa [List.extract_eq_take_drop] using this
    · exact h.elim
  | false =>
    simp only [ha] at h
    split at h
    · rename_i x c rest hb hd
      obtain ⟨b, m, h1, h2, _⟩ := (hd ▸ hL.drop o).uncons
      have hc : cs[o]? = some b := by have := congrArg (·[0]?) h1; simpa using this
      refine ⟨_, b, h, ?_, .inl ⟨c, rfl, h2⟩⟩
      simp only [part, Sem.run_bind, hag, ha, Result.andThen, Bool.false_eq_true, if_false, hc, Sem.run_pure]
    · exact h.elim

theorem gives_part {w : World} {g : Gh} {s : Sem Value} {K : AV → Prop} (h : ∃ av v, K av ∧ s.run P w = .ok v w ∧ ((∃ a, av = .one a ∧ A1R w g a v) ∨ (∃ l c, av = .agg l ∧ v = .agg c ∧ L2 (A1R w g) l c.toList))) : Gives w g s P K := by
  obtain ⟨av, v, h1, h2, h3⟩ := h
  refine ⟨av, v, h1, h2, ?_⟩
  rcases h3 with ⟨a, rfl, h⟩ | ⟨l, c, rfl, rfl, h⟩
  · exact h
  · exact ⟨c, rfl, h⟩

theorem aIndexAddr_sound (hT : TyOk P E) {w : World} {g : Gh} {H : List Blk} (hs : Sim E w g H) {t : Nat} {x y : AV} {u v : Value} {K : AV → Prop} (hx : AVR w g x u) (hy : AVR w g y v) (h : aIndexAddr E t x y H K) : Gives w g (Instr.indexAt t u v) P K := by
  unfold aIndexAddr at h
  split at h
  · rename_i e k i hk
    have ev := rd_int hy; subst ev
    have hu := td_slice hT hk
    split at h
    · rename_i hz
      have hz : 0 < (E.td e).size := by simpa using hz
      split at h
      · rename_i elems
        obtain ⟨cells, h0, h1, h2, hK⟩ := h
        cases hx with
        | lst _ a n cap sz c hn hcap hsz ha hr =>
          subst hn
          have hlt : i.toNat < elems.length := (List.getElem?_eq_some_iff.1 h1).1
          rcases ha with rfl | ⟨b, off, rfl, hI, hc⟩
          · simp at hlt
          · have hsz' : cells.length = sz := hsz _ _ h1
            refine gives _ (.pointer (some ⟨b, off + i.toNat * sz, none⟩)) hK ?_ (Rd.ptr cells b (off + i.toNat * sz) (fun j => c i.toNat j) (fun _ => hI) (fun j hj => ?_) (fun j x hx => hr _ _ _ _ h1 hx))
            · have hb : 0 ≤ i ∧ i < (elems.length : Int) := ⟨h0, by omega⟩
              simp only [Instr.indexAt, Sem.run_bind, asIntOf, Sem.run_pure, Result.andThen, run_underlying hu, Bool.and_false, if_pos hb, run_sizeOf_td hT hz w, add_zero', ← h2, hsz']
            · rw [Nat.add_assoc]; exact hc i.toNat j hlt (by omega)
      · rename_i id off len
        split at h
        · rename_i sz elems gr _ hl
          split at h
          · rename_i hsz
            obtain ⟨h0, h1, hK⟩ := h
            have hsz : sz = (E.td e).size := Nat.eq_of_beq_eq_true hsz
            obtain ⟨r, hr, a, cap, rfl, q1, q2, q3, q4, q5⟩ := hx
            obtain ⟨hes, r0, rs, ho, hn, hg, hlt, hv⟩ := hs.blk id _ (getD_get hl (by simp))
            have hver := hv r (by rw [← ho]; exact hr)
            have ha : a = ⟨r.blk, (off - r.start) * r.sz, none⟩ := by
              rcases q5 with q5 | q5
              · omega
              · exact q5
            subst ha
            refine gives _ (.pointer (some ⟨r.blk, (off - r.start) * r.sz + i.toNat * (E.td e).size, none⟩)) hK ?_ ⟨r, hr, by omega, by omega, ?_⟩
            · have hb : 0 ≤ i ∧ i < (len : Int) := ⟨h0, h1⟩
              simp only [Instr.indexAt, Sem.run_bind, asIntOf, Sem.run_pure, Result.andThen, run_underlying hu, Bool.and_false, if_pos hb, run_sizeOf_td hT hz w, add_zero']
            · rw [hver.hz, ← hsz, Nat.add_zero, show off + i.toNat - r.start = (off - r.start) + i.toNat by omega, Nat.add_mul]
          · exact h.elim
        · exact h.elim
      · exact h.elim
    · exact h.elim
  · rename_i n e k i hk
    have ev := rd_int hy; subst ev
    have hu := td_array hT hk
    split at h
    · rename_i hz
      have hz : 0 < (E.td e).size := by simpa using hz
      have run : ∀ b o, 0 ≤ i → i < (n : Int) → (Instr.indexAt t (.pointer (some ⟨b, o, none⟩)) (.int k i)).run P w = .ok (.pointer (some ⟨b, o + i.toNat * (E.td e).size, none⟩)) w := by
        intro b o h0 h1
        have hb : 0 ≤ i ∧ i < (n : Int) := ⟨h0, h1⟩
        simp only [Instr.indexAt, Sem.run_bind, asIntOf, Sem.run_pure, Result.andThen, run_underlying hu, Instr.sureAddr, if_pos hb, run_sizeOf_td hT hz w, add_zero']
      split at h
      · rename_i id
        split at h
        · rename_i sz elems _ hl
          split at h
          · rename_i hsz
            obtain ⟨h0, h1, h2, hK⟩ := h
            have hsz : sz = (E.td e).size := Nat.eq_of_beq_eq_true hsz
            obtain ⟨r, hr, rfl⟩ := hx
            obtain ⟨hes, r0, rs, ho, hn, hg, hlt, hv⟩ := hs.blk id _ (getD_get hl (by simp))
            obtain ⟨hrs, hst⟩ := hg rfl
            rw [ho, hrs] at hr
            simp at hr
            subst hr
            have hver := hv r (by simp)
            refine gives _ _ hK (run r.blk 0 h0 h1) ⟨r, by rw [ho]; simp, by omega, by omega, ?_⟩
            rw [hver.hz, hst, ← hsz, Nat.sub_zero, Nat.zero_add, Nat.add_zero]
          · exact h.elim
        · exact h.elim
      · rename_i cells
        obtain ⟨cs, h0, h1, h2, h3, hK⟩ := h
        cases hx with
        | ptr _ b off c hI hc hr =>
          have hget : ∀ (j : Nat) x, cs[j]? = some x → cells[i.toNat * (E.td e).size + j]? = some x := by
            intro j x hj
            rw [← h2, List.getElem?_take] at hj
            split at hj
            · rwa [List.getElem?_drop] at hj
            · simp at hj
          refine gives _ _ hK (run b off h0 h1) (Rd.ptr cs b (off + i.toNat * (E.td e).size) (fun j => c (i.toNat * (E.td e).size + j)) (fun hne => hI (fun e => ?_)) (fun j hj => ?_) (fun j x hj => hr _ _ (hget j x hj)))
          · rw [e] at h2; exact hne (by rw [← h2]; simp)
          · have := (List.getElem?_eq_some_iff.1 (hget j cs[j] (List.getElem?_eq_getElem hj))).1
            rw [Nat.add_assoc]; exact hc _ this
      · exact h.elim
    · exact h.elim
  · exact h.elim

theorem ldCells_take {td : TD} {m : List A1} {K : AV → Prop} (hz : 0 < td.size) (h : ldCells td (m.take td.size) K) : ldCells td m K := by
  unfold ldCells at h ⊢
  cases ha : td.agg with
  | true =>
    simp only [ha] at h ⊢
    split at h
    · rename_i hb
      have hle := Nat.le_of_ble_eq_true hb
      simp at hle
      have : Nat.ble td.size m.length = true := Nat.ble_eq_true_of_le (by omega)
      simp only [this]
      simpa [List.take_take] using h
    · exact h.elim
  | false =>
    simp only [ha] at h ⊢
    cases m with
    | nil => simp at h
    | cons a m =>
      obtain ⟨s', hs'⟩ : ∃ s', td.size = s' + 1 := ⟨td.size - 1, by omega⟩
      rw [hs'] at h ⊢
      rw [List.take_succ_cons] at h
      split at h
      · rename_i x c rest hb hd
        simp only [List.cons.injEq] at hd
        simp only [hb, hd.1]; exact h
      · exact h.elim

theorem aIndex_sound (hT : TyOk P E) {w : World} {g : Gh} {t : Nat} {x y : AV} {u v : Value} {K : AV → Prop} (hx : AVR w g x u) (hy : AVR w g y v) (h : aIndex E t x y K) : Gives w g (Instr.index t u v) P K := by
  unfold aIndex at h
  split at h
  · rename_i k i hk
    have ev := rd_int hy; subst ev
    have hu := td_str hT hk
    split at h
    · rename_i s
      obtain ⟨h0, h1, hK⟩ := h
      have es := rd_str hx; subst es
      have hlt : i.toNat < s.size := by omega
      refine gives _ _ hK ?_ (.int _ _)
      have e2 : sb s i.toNat = ((s[i.toNat]'hlt).toNat : Int) := by
        simp only [sb, List.getD, Array.getElem?_toList]
        rw [Array.getElem?_eq_getElem (by exact hlt)]; rfl
      rw [e2]
      simp only [Instr.index, Sem.run_bind, asIntOf, Sem.run_pure, Result.andThen, run_underlying hu, if_pos h0]
      rw [getElem?_pos s i.toNat hlt]
      rfl
    · exact h.elim
  · rename_i n e k i hk
    have ev := rd_int hy; subst ev
    have hu := td_array hT hk
    split at h
    · rename_i hz
      have hz : 0 < (E.td e).size := by simpa using hz
      have run : ∀ (cs : Array Value), 0 ≤ i → i < (n : Int) → (Instr.index t (.agg cs) (.int k i)).run P w = (part e cs (i.toNat * (E.td e).size)).run P w := by
        intro cs h0 h1
        have hb : 0 ≤ i ∧ i < (n : Int) := ⟨h0, h1⟩
        simp only [Instr.index, Sem.run_bind, asIntOf, Sem.run_pure, Result.andThen, run_underlying hu, if_pos hb, run_sizeOf_td hT hz w]
      have key : ∀ (l : List A1) (cs : Array Value), L2 (A1R w g) l cs.toList → 0 ≤ i → i < (n : Int) → ldCells (E.td e) ((l.drop (i.toNat * (E.td e).size)).take (E.td e).size) K → Gives w g (Instr.index t (.agg cs) (.int k i)) P K := by
        intro l cs hL h0 h1 hK
        have hd : ldCells (E.td e) (l.drop (i.toNat * (E.td e).size)) K := ldCells_take hz hK
        obtain ⟨av, v, q1, q2, q3⟩ := gives_part (part_cells hT hL hd hz)
        exact ⟨av, v, q1, by rw [run cs h0 h1]; exact q2, q3⟩
      split at h
      · rename_i l
        obtain ⟨cs, h0, h1, rfl, hK⟩ := h
        obtain ⟨vs, rfl, hL⟩ := hx
        refine key (l.map .imm) vs (L2.map.2 hL) h0 h1 ?_
        rwa [← List.map_drop, ← List.map_take]
      · rename_i l
        obtain ⟨cs, h0, h1, rfl, hK⟩ := h
        obtain ⟨vs, rfl, hL⟩ := hx
        exact key l vs hL h0 h1 hK
      · exact h.elim
    · exact h.elim
  · exact h.elim

end
end Go.Abs

namespace Go.Abs
open Go
set_option linter.unusedSimpArgs false

section
variable {P : Program} {E : Env}

def OptR (w : World) (g : Gh) : Option AV → Option Value → Prop
  | none, none => True
  | some a, some v => AVR w g a v
  | _, _ => False

theorem boundOf_sound {w : World} {g : Gh} {o : Option AV} {v : Option Value} {d : Int} {K : Int → Prop} (ho : OptR w g o v) (h : boundOf o d K) : ∃ i, K i ∧ ((v = none ∧ i = d) ∨ ∃ k, v = some (.int k i)) := by
  unfold boundOf at h
  split at h
  · cases v with
    | none => exact ⟨d, h, .inl ⟨rfl, rfl⟩⟩
    | some v => exact ho.elim
  · rename_i k i
    cases v with
    | none => exact ho.elim
    | some v => have e := rd_int ho; subst e; exact ⟨i, h, .inr ⟨_, rfl⟩⟩
  · exact h.elim

theorem run_sliceBounds {w : World} {b : Bool} {len cap : Nat} {lo hi : Option Value} {l h : Int} (h1 : (lo = none ∧ l = 0) ∨ ∃ k, lo = some (.int k l)) (h2 : (hi = none ∧ h = len) ∨ ∃ k, hi = some (.int k h))
    (h3 : 0 ≤ l) (h4 : l ≤ h) (h5 : h ≤ cap) : (Instr.sliceBounds b len cap lo hi none).run P w = .ok (l.toNat, h.toNat, cap) w := by
  have hb : ∀ (k : IntKind) (i : Int) (y : Nat) (c : BoundsCode), 0 ≤ i → i ≤ y → (Instr.sliceBound (.int k i) y c).run P w = .ok i.toNat w := by
    intro k i y c q1 q2
    simp [Instr.sliceBound, asIntOf, q1, q2]
  rcases h1 with ⟨rfl, rfl⟩ | ⟨k, rfl⟩ <;> rcases h2 with ⟨rfl, rfl⟩ | ⟨k', rfl⟩
  · simp [Instr.sliceBounds]
  · simp [Instr.sliceBounds, hb _ _ _ _ (show 0 ≤ h by omega) h5]
  · simp [Instr.sliceBounds, hb _ _ _ _ h3 h4]
  · simp only [Instr.sliceBounds, Sem.run_bind, Sem.run_pure, Result.andThen, hb _ _ _ _ (show 0 ≤ h by omega) h5, Option.isSome_none, Bool.false_eq_true, if_false]
    rw [hb _ _ _ _ h3 (by omega)]

theorem run_sliceBounds0 {w : World} {len cap : Nat} {lo hi mx : Option Value} (h1 : (lo = none ∧ (0 : Int) = 0) ∨ ∃ k, lo = some (.int k 0)) (h2 : ∃ k, hi = some (.int k 0)) (h3 : ∃ k, mx = some (.int k 0)) :
    (Instr.sliceBounds true len cap lo hi mx).run P w = .ok (0, 0, 0) w := by
  obtain ⟨k2, rfl⟩ := h2
  obtain ⟨k3, rfl⟩ := h3
  have hb : ∀ (k : IntKind) (y : Nat) (c : BoundsCode), (Instr.sliceBound (.int k 0) y c).run P w = .ok 0 w := by
    intro k y c
    simp [Instr.sliceBound, asIntOf]
  rcases h1 with ⟨rfl, _⟩ | ⟨k, rfl⟩
  · simp [Instr.sliceBounds, hb]
  · simp [Instr.sliceBounds, hb]

theorem aSlice_sound (hT : TyOk P E) {w : World} {g : Gh} {H : List Blk} (hs : Sim E w g H) {t : Nat} {x : AV} {u : Value} {lo hi mx : Option AV} {vlo vhi vmx : Option Value} {K : AV → Prop}
    (hx : AVR w g x u) (hlo : OptR w g lo vlo) (hhi : OptR w g hi vhi) (hmx : OptR w g mx vmx) (h : aSlice E t x lo hi mx H K) : Gives w g (Instr.sliceAt t u vlo vhi vmx) P K := by
  unfold aSlice at h
  split at h
  · rename_i m
    split at h
    · rename_i elems e hk
      split at h
      · rename_i hz
        have hz : 0 < (E.td e).size := by simpa using hz
        obtain ⟨l, h, e1⟩ := boundOf_sound hlo h
        obtain ⟨r, h, e2⟩ := boundOf_sound hhi h
        obtain ⟨q, h, e3⟩ := boundOf_sound hmx h
        obtain ⟨rfl, rfl, rfl, hK⟩ := h
        have hu := td_slice hT hk
        have e2 : ∃ k, vhi = some (.int k 0) := by
          rcases e2 with ⟨_, e⟩ | e
          · exact absurd e (by decide)
          · exact e
        have e3 : ∃ k, vmx = some (.int k 0) := by
          rcases e3 with ⟨_, e⟩ | e
          · exact absurd e (by decide)
          · exact e
        cases hx with
        | lst _ a n cap sz c hn hcap hsz ha hr =>
          refine gives _ (.slice a 0 0) hK ?_ ⟨a, rfl⟩
          simp only [Instr.sliceAt, Sem.run_bind, run_underlying hu, Result.andThen, Instr.slice, run_sliceBounds0 e1 e2 e3, run_sizeOf_td hT hz w, Sem.run_pure]
          simp
      · exact h.elim
    · exact h.elim
  · have : vmx = none := by cases vmx <;> first | rfl | exact hmx.elim
    subst this
    split at h
    · rename_i s
      split at h
      · rename_i hk
        have es := rd_str hx; subst es
        obtain ⟨l, h, e1⟩ := boundOf_sound hlo h
        obtain ⟨r, h, e2⟩ := boundOf_sound hhi h
        obtain ⟨h1, h2, h3, hK⟩ := h
        have hu := td_str hT hk
        refine gives _ _ hK ?_ (.str _)
        simp only [Instr.sliceAt, Sem.run_bind, run_underlying hu, Result.andThen, Instr.slice, Option.isSome_none, Bool.false_eq_true, if_false, run_sliceBounds e1 e2 h1 h2 h3, Sem.run_pure]
      · exact h.elim
    · rename_i elems
      split at h
      · rename_i e hk
        split at h
        · rename_i hz
          have hz : 0 < (E.td e).size := by simpa using hz
          obtain ⟨hall, h⟩ := h
          obtain ⟨l, h, e1⟩ := boundOf_sound hlo h
          obtain ⟨r, h, e2⟩ := boundOf_sound hhi h
          obtain ⟨h1, h2, h3, hK⟩ := h
          have hu := td_slice hT hk
          cases hx with
          | lst _ a n cap sz c hn hcap hsz ha hr =>
            subst hn
            have hget : ∀ (i : Nat) x, ((elems.take r.toNat).drop l.toNat)[i]? = some x → elems[l.toNat + i]? = some x ∧ l.toNat + i < r.toNat := by
              intro i x hi
              rw [List.getElem?_drop, List.getElem?_take] at hi
              split at hi
              · exact ⟨hi, ‹_›⟩
              · simp at hi
            have hlen : ((elems.take r.toNat).drop l.toNat).length = r.toNat - l.toNat := by simp; omega
            refine gives _ (.slice (if cap = l.toNat then a else a.map (·.add (l.toNat * (E.td e).size))) (r.toNat - l.toNat) (cap - l.toNat)) hK ?_ ?_
            · simp only [Instr.sliceAt, Sem.run_bind, run_underlying hu, Result.andThen, Instr.slice, run_sliceBounds e1 e2 h1 h2 (show r ≤ (cap : Int) by omega), run_sizeOf_td hT hz w, Sem.run_pure]
            · refine .lst _ _ _ _ sz (fun i j => c (l.toNat + i) j) hlen.symm (by omega) (fun i e he => hsz _ e (hget i e he).1) ?_ (fun i j e x he hx => hr _ _ _ _ (hget i e he).1 hx)
              by_cases hlr : l.toNat < r.toNat
              · right
                have hne : elems ≠ [] := by rintro rfl; simp at h3; omega
                rcases ha with h0 | ⟨b, off, rfl, hI, hc⟩
                · exact absurd h0 hne
                · have hesz : (E.td e).size = sz := by
                    obtain ⟨x, hx⟩ : ∃ x, elems[0]? = some x := ⟨elems[0]'(by omega), List.getElem?_eq_getElem (by omega)⟩
                    rw [← hsz 0 x hx, hall x (List.mem_of_getElem? hx)]
                  refine ⟨b, off + l.toNat * sz, by rw [if_neg (by omega), hesz]; simp [add_zero'], hI, fun i j hi hj => ?_⟩
                  rw [hlen] at hi
                  rw [show off + l.toNat * sz + (i * sz + j) = off + ((l.toNat + i) * sz + j) by rw [Nat.add_mul]; omega]
                  exact hc _ _ (by omega) hj
              · left
                apply List.eq_nil_of_length_eq_zero; omega
        · exact h.elim
      · exact h.elim
    · rename_i id off len
      split at h
      · rename_i e sz elems gr _ hk hl
        split at h
        · rename_i hb
          simp only [Bool.and_eq_true] at hb
          have hsz : sz = (E.td e).size := Nat.eq_of_beq_eq_true hb.1
          have hz : 0 < (E.td e).size := by simpa using hb.2
          obtain ⟨l, h, e1⟩ := boundOf_sound hlo h
          obtain ⟨r, h, e2⟩ := boundOf_sound hhi h
          obtain ⟨h1, h2, h3, hK⟩ := h
          have hu := td_slice hT hk
          obtain ⟨q, hq, a, cap, rfl, q1, q2, q3, q4, q5⟩ := hx
          obtain ⟨hes, r0, rs, ho, hn, hg, hlt, hv⟩ := hs.blk id _ (getD_get hl (by simp))
          have hver := hv q (by rw [← ho]; exact hq)
          refine gives _ (.slice (some (if cap = l.toNat then a else a.add (l.toNat * (E.td e).size))) (r.toNat - l.toNat) (cap - l.toNat)) hK ?_ ⟨q, hq, _, _, rfl, by omega, by omega, by omega, by omega, ?_⟩
          · simp only [Instr.sliceAt, Sem.run_bind, run_underlying hu, Result.andThen, Instr.slice, run_sliceBounds e1 e2 h1 h2 (show r ≤ (cap : Int) by omega), run_sizeOf_td hT hz w, Sem.run_pure]
            congr 2
            split <;> rfl
          · by_cases hcl : cap = l.toNat
            · left; omega
            · right
              rw [if_neg hcl]
              rcases q5 with q5 | rfl
              · omega
              · rw [add_zero', hver.hz, ← hsz, show off + l.toNat - q.start = (off - q.start) + l.toNat by omega, Nat.add_mul]
        · exact h.elim
      · exact h.elim
    · exact h.elim

/-- what an operation gives that may make blocks, or write to the frame's own -/
def GivesW (E : Env) (w : World) (g : Gh) (H : List Blk) (s : Sem Value) (P : Program) (K : AV → List Blk → Prop) : Prop :=
  ∃ av v w' g' H', K av H' ∧ s.run P w = .ok v w' ∧ Step w g H w' g' H' ∧ OwnLe g g' ∧ Sim E w' g' H' ∧ AVR w' g' av v

theorem Gives.w {w : World} {g : Gh} {H : List Blk} {s : Sem Value} {K : AV → List Blk → Prop} (hs : Sim E w g H) (h : Gives w g s P fun v => K v H) : GivesW E w g H s P K := by
  obtain ⟨av, v, h1, h2, h3⟩ := h
  exact ⟨av, v, w, g, H, h1, h2, .refl _ _ _, .refl _, hs, h3⟩

end
end Go.Abs

namespace Go.Abs
open Go
set_option linter.unusedSimpArgs false

section
variable {P : Program} {E : Env}

theorem bytesIV_each (s : ByteArray) : ∀ e ∈ bytesIV s, e.length = 1 := by
  intro e he
  simp only [bytesIV, List.mem_map] at he
  obtain ⟨b, _, rfl⟩ := he
  rfl

theorem bytesIV_len (s : ByteArray) : (bytesIV s).length = s.size := by simp [bytesIV]

theorem take_flat {sz : Nat} {l : List (List IV)} (h : ∀ e ∈ l, e.length = sz) (k : Nat) (hk : k ≤ l.length) : (l.take k).flatten.length = k * sz := by
  rw [flat_len (fun e he => h e (List.mem_of_mem_take he)), List.length_take, Nat.min_eq_left hk]

/-- a row's elements, read one behind the other -/
theorem elemsOf_sound {w : World} {g : Gh} {H : List Blk} (hs : Sim E w g H) {n : Nat} {x : AV} {v : Value} {K : List (List IV) → Prop} (hx : AVR w g x v) (h : elemsOf n H x K) :
    ∃ xs, K xs ∧ (∀ e ∈ xs, e.length = n) ∧ (Builtin.lenOf v).run P w = .ok xs.length w ∧
      ∀ k, k ≤ xs.length → ∃ c : Array Value, (∀ w', w'.heap = w.heap → (Builtin.firstCells n k v).run P w' = .ok c w') ∧ L2 (Rd w g.imm) (xs.take k).flatten c.toList := by
  have row : ∀ (xs : List (List IV)) (b off len cap : Nat) (f : Nat → Value), (∀ e ∈ xs, e.length = n) → (∀ (i j : Nat) e x, xs[i]? = some e → e[j]? = some x → w.cell? ⟨b, off + (i * n + j), none⟩ = some (f (i * n + j)) ∧ Rd w g.imm x (f (i * n + j))) →
      ∀ k, k ≤ xs.length → ∃ c : Array Value, (∀ w', w'.heap = w.heap → (Builtin.firstCells n k (.slice (some ⟨b, off, none⟩) len cap)).run P w' = .ok c w') ∧ L2 (Rd w g.imm) (xs.take k).flatten c.toList := by
    intro xs b off len cap f hxs hf k hk
    have hfl := take_flat hxs k hk
    have key : ∀ (m : Nat) x, (xs.take k).flatten[m]? = some x → w.cell? ⟨b, off + m, none⟩ = some (f m) ∧ Rd w g.imm x (f m) := by
      intro m x hm
      obtain ⟨i, j, e, q1, q2, rfl⟩ := flat_get (fun e he => hxs e (List.mem_of_mem_take he)) hm
      rw [List.getElem?_take] at q1
      split at q1
      · exact hf i j e x q1 q2
      · simp at q1
    have hrun := fun (w' : World) (hw' : w'.heap = w.heap) => run_firstCells_some (P := P) w' n k ⟨b, off, none⟩ len cap ((List.range (k * n)).map f) (by simp) (fun j v hj => by
      simp only [List.getElem?_map, Option.map_eq_some_iff] at hj
      obtain ⟨a, ha, rfl⟩ := hj
      have hjl : j < k * n := by have := (List.getElem?_eq_some_iff.1 ha).1; simpa using this
      have : a = j := by rw [List.getElem?_range hjl] at ha; simpa using ha.symm
      subst this
      rw [add_zero', cell_of_heap (w := w) (w' := w') (by rw [hw'])]
      exact (key a ((xs.take k).flatten[a]'(by omega)) (List.getElem?_eq_getElem (by omega))).1)
    refine ⟨_, hrun, by simp [hfl], fun m x hm => ?_⟩
    have hml : m < k * n := by rw [← hfl]; exact (List.getElem?_eq_some_iff.1 hm).1
    exact ⟨f m, by simp [hml], (key m x hm).2⟩
  unfold elemsOf at h
  split at h
  · have e : v = .slice none 0 0 := hx
    subst e
    refine ⟨[], h, by simp, by simp [Builtin.lenOf], fun k hk => ?_⟩
    have : k = 0 := by simpa using hk
    subst this
    exact ⟨#[], fun _ _ => by simp [Builtin.firstCells], by simpa using L2.nil⟩
  · obtain ⟨a, rfl⟩ := hx
    refine ⟨[], h, by simp, by simp [Builtin.lenOf], fun k hk => ?_⟩
    have : k = 0 := by simpa using hk
    subst this
    refine ⟨#[], fun _ _ => ?_, by simpa using L2.nil⟩
    cases a with
    | none => simp [Builtin.firstCells]
    | some a => simp [Builtin.firstCells, loadCells, loadCellsFrom]
  · rename_i l
    obtain ⟨h1, hK⟩ := h
    cases hx with
    | lst _ a n' cap sz c hn hcap hsz ha hr =>
      subst hn
      refine ⟨l, hK, h1, by simp [Builtin.lenOf], ?_⟩
      rcases ha with rfl | ⟨b, off, rfl, hI, hc⟩
      · intro k hk
        have : k = 0 := by simpa using hk
        subst this
        refine ⟨#[], fun _ _ => ?_, by simpa using L2.nil⟩
        cases a with
        | none => simp [Builtin.firstCells]
        | some a => simp [Builtin.firstCells, loadCells, loadCellsFrom]
      · by_cases hne : l = []
        · subst hne
          intro k hk
          have : k = 0 := by simpa using hk
          subst this
          exact ⟨#[], fun _ _ => by simp [Builtin.firstCells, loadCells, loadCellsFrom], by simpa using L2.nil⟩
        · have hszn : sz = n := by
            obtain ⟨x, t, rfl⟩ := List.exists_cons_of_ne_nil hne
            rw [← hsz 0 x rfl, h1 x (by simp)]
          subst hszn
          refine row l b off l.length cap (fun m => c (m / sz) (m % sz)) h1 (fun i j e x hi hj => ?_)
          have hil := (List.getElem?_eq_some_iff.1 hi).1
          have hjl : j < sz := by rw [← hsz i e hi]; exact (List.getElem?_eq_some_iff.1 hj).1
          have e1 : (i * sz + j) / sz = i := by rw [Nat.mul_comm, Nat.mul_add_div (by omega), Nat.div_eq_of_lt hjl, Nat.add_zero]
          have e2 : (i * sz + j) % sz = j := by rw [Nat.mul_comm, Nat.mul_add_mod, Nat.mod_eq_of_lt hjl]
          simp only [e1, e2]
          exact ⟨hc i j hil hjl, hr i j e x hi hj⟩
  · rename_i s
    split at h
    · rename_i hn
      have hn : n = 1 := Nat.eq_of_beq_eq_true hn
      subst hn
      have es := rd_str hx; subst es
      refine ⟨_, h, bytesIV_each s, by simp [Builtin.lenOf, bytesIV_len], fun k hk => ⟨_, fun _ _ => by simp only [Builtin.firstCells, Sem.run_pure]; rfl, ?_⟩⟩
      rw [bytesIV_len] at hk
      have e1 : ((bytesIV s).take k).flatten = (s.data.toList.take k).map fun b => IV.int .u8 (b.toNat : Int) := by
        simp only [bytesIV, ← List.map_take]
        generalize s.data.toList.take k = l
        induction l with
        | nil => rfl
        | cons a l ih => simp [ih]
      rw [e1, L2.map]
      have e2 : ((s.extract 0 k).data.map fun b => Value.int .u8 (b.toNat : Int)).toList = (s.data.toList.take k).map fun b => Value.int .u8 (b.toNat : Int) := by
        simp
      rw [e2]
      refine ⟨by simp, fun i b hb => ⟨.int .u8 (b.toNat : Int), by rw [List.getElem?_map, hb]; rfl, .int _ _⟩⟩
    · exact h.elim
  · rename_i id off len
    split at h
    · rename_i sz elems gr _ hl
      split at h
      · rename_i hn
        have hn : sz = n := Nat.eq_of_beq_eq_true hn
        subst hn
        obtain ⟨r, hr, a, cap, rfl, q1, q2, q3, q4, q5⟩ := hx
        obtain ⟨hes, r0, rs, ho, hn, hg, hlt, hv⟩ := hs.blk id _ (getD_get hl (by simp))
        have hver := hv r (by rw [← ho]; exact hr)
        obtain ⟨c, ty, fz, hb, hu, hcs, _, hm⟩ := hver.mem
        have hlen : ((elems.drop off).take len).length = len := by simp; have := hver.le; omega
        have hes' : ∀ e ∈ (elems.drop off).take len, e.length = sz := fun e he => hes e (List.mem_of_mem_drop (List.mem_of_mem_take he))
        refine ⟨_, h, hes', by simp only [Builtin.lenOf, Sem.run_pure, hlen], ?_⟩
        rcases q5 with q5 | rfl
        · intro k hk
          rw [hlen] at hk
          have : k = 0 := by omega
          subst this
          exact ⟨#[], fun _ _ => by simp [Builtin.firstCells, loadCells, loadCellsFrom], by simpa using L2.nil⟩
        · refine row _ r.blk _ len cap (fun m => (c[(off - r.start) * sz + m]?).getD undef) hes' (fun i j e x hi hj => ?_)
          rw [List.getElem?_take] at hi
          split at hi
          · rename_i hil
            rw [List.getElem?_drop] at hi
            obtain ⟨u, hu1, hu2⟩ := hm (off + i) e (by omega) (by omega) hi j x hj
            have e1 : (off - r.start) * sz + (i * sz + j) = (off + i - r.start) * sz + j := by
              rw [show off + i - r.start = (off - r.start) + i by omega, Nat.add_mul]; omega
            rw [hver.hz, cell_of hb, e1, hu1]
            exact ⟨rfl, hu2⟩
          · simp at hi
      · exact h.elim
    · exact h.elim
  · exact h.elim

/-- one block of the frame's own turns, and what is told of it -/
theorem sim_upd {w w' : World} {g g' : Gh} {H : List Blk} {id : Nat} {B B' : Blk} (hs : Sim E w g H) (hid : H[id]? = some B) (hl : B.live = true) (hl' : B'.live = true)
    (hi : g'.imm = g.imm) (ho : ∀ j, j ≠ id → g'.own j = g.own j) (hle : OwnLe g g')
    (hblk : ∀ r' ∈ g'.own id, (∃ r ∈ g.own id, r.blk = r'.blk) ∨ w.heap.size ≤ r'.blk) (hdis : ∀ r ∈ g'.own id, ∀ r' ∈ g'.own id, r.blk = r'.blk → r = r')
    (hw : ∀ k, k < w.heap.size → (¬ ∃ r ∈ g.own id, r.blk = k) → w'.heap[k]? = w.heap[k]?) (hsz : w.heap.size ≤ w'.heap.size)
    (h1 : w'.os = w.os) (h2 : w'.tape = w.tape) (h3 : w'.output = w.output) (hB : BlkR w' g' id B') :
    Sim E w' g' (H.set id B') ∧ Step w g H w' g' (H.set id B') := by
  have hlt : id < H.length := (List.getElem?_eq_some_iff.1 hid).1
  have hob : ∀ k, (∃ r ∈ g.own id, r.blk = k) → Owned g H k := fun k ⟨r, q1, q2⟩ => ⟨id, B, hid, hl, r, q1, q2⟩
  have hrd : ∀ iv v, Rd w g.imm iv v → Rd w' g'.imm iv v := fun iv v h => h.keep (fun _ h => by rw [hi]; exact h) (fun k hk => hw k (hs.lt k hk) (fun e => hs.imm k (hob k e) hk))
  have hget : ∀ (j : Nat) (C : Blk), (H.set id B')[j]? = some C → (j = id ∧ C = B') ∨ (j ≠ id ∧ H[j]? = some C) := by
    intro j C h
    rw [List.getElem?_set] at h
    by_cases e : id = j
    · rw [if_pos e] at h; simp [hlt] at h; exact .inl ⟨e.symm, h.symm⟩
    · rw [if_neg e] at h; exact .inr ⟨fun e' => e e'.symm, h⟩
  have hown : ∀ k, Owned g' (H.set id B') k → Owned g H k ∨ w.heap.size ≤ k := by
    rintro k ⟨j, C, q1, q2, q, q3, q4⟩
    rcases hget j C q1 with ⟨rfl, rfl⟩ | ⟨q5, q6⟩
    · rcases hblk q q3 with h | h
      · exact .inl (hob k (by rw [← q4]; exact h))
      · exact .inr (by omega)
    · rw [ho j q5] at q3; exact .inl ⟨j, C, q6, q2, q, q3, q4⟩
  refine ⟨⟨?_, ?_, ?_, ?_, ?_, fun k cells hk => hrd _ _ (hs.glob k cells hk)⟩, ⟨h1, h2, h3, hsz, fun k hk hn => hw k hk (fun e => hn (hob k e)), fun _ h => by rw [hi]; exact h, fun _ h => .inl (by rw [← hi]; exact h), hown⟩⟩
  · intro j C hj
    rcases hget j C hj with ⟨rfl, rfl⟩ | ⟨q, q5⟩
    · exact hB
    · refine (hs.blk j C q5).keep hrd hle (ho j q) (fun hlc r' hr' => hw _ (blk_lt (hs.blk j C q5) hlc hr') ?_)
      rintro ⟨r, hr, e⟩
      exact q (hs.dis j C id B r' r q5 hlc hid hl hr' hr e.symm).1
  · intro j1 C1 j2 C2 q q' a1 a2 a3 a4 a5 a6 a7
    rcases hget j1 C1 a1 with ⟨rfl, rfl⟩ | ⟨n1, b1⟩ <;> rcases hget j2 C2 a3 with ⟨rfl, rfl⟩ | ⟨n2, b2⟩
    · exact ⟨rfl, hdis q a5 q' a6 a7⟩
    · exfalso
      rw [ho j2 n2] at a6
      rcases hblk q a5 with ⟨r, hr, e⟩ | h
      · exact n2 (hs.dis j2 C2 j1 B q' r b2 a4 hid hl a6 hr (by omega)).1
      · have := blk_lt (hs.blk j2 C2 b2) a4 a6; omega
    · exfalso
      rw [ho j1 n1] at a5
      rcases hblk q' a6 with ⟨r, hr, e⟩ | h
      · exact n1 (hs.dis j1 C1 j2 B q r b1 a2 hid hl a5 hr (by omega)).1
      · have := blk_lt (hs.blk j1 C1 b1) a2 a5; omega
    · rw [ho j1 n1] at a5; rw [ho j2 n2] at a6
      exact hs.dis j1 C1 j2 C2 q q' b1 a2 b2 a4 a5 a6 a7
  · intro k hk him
    rw [hi] at him
    rcases hown k hk with h | h
    · exact hs.imm k h him
    · have := hs.lt k him; omega
  · intro k hk; rw [hi] at hk; have := hs.lt k hk; omega
  · intro j hj
    have : j ≠ id := by simp at hj; omega
    rw [ho j this]; exact hs.nil j (by simpa using hj)

end
end Go.Abs
