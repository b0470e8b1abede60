/- A part of the proof of a seat of parts: BuilderW, B1, B2, BuilderS, B3. -/
import Derived.Shelf.Strings.Builder1
import Derived.Test.YtmfilaagpobmbaaGreatDoorProg
import Derived.Test.YtmfilaagpobmbaaGreatDoorC1
import Derived.Test.YtmfilaagpobmbaaGreatDoorS4
import Derived.Test.YtmfilaagpobmbaaGreatDoorTE
set_option linter.all false
namespace Go.Proofs.YtmfilaagpobmbaaGreatDoor
open Go Go.Shelf Go.RowKit Go.Proofs
set_option maxHeartbeats 1000000 in
set_option maxRecDepth 100000 in
theorem copyCheck_used (b : Nat) (w : World) (h0 : w.cell? ⟨b, 0, none⟩ = some (.pointer (some ⟨b, 0, none⟩))) :
    Calls Tryz.prog 125 #[.pointer (some ⟨b, 0, none⟩)] w fun e w' => e = .returned (.tuple #[]) ∧ w' = w := by
  obtain ⟨j, hj⟩ : ∃ j, Tryz.prog.info? 142 = some j := Option.isSome_iff_exists.1 (by kernel_rfl)
  go_enter Tryz.func125, Tryz.ntmps125
  go_wp2
  rw [Lib.run_neq_ptr_same w _ Tryz.underlying140 hj]
  go_wp2
  go_end0
  exact ⟨rfl, rfl⟩
set_option maxHeartbeats 1000000 in
set_option maxRecDepth 100000 in
theorem copyCheck_fresh (b W n : Nat) (w : World) (h0 : w.cell? ⟨b, 0, none⟩ = some (.pointer none)) (hsh : w.shape? b = some (W, n)) (hn : 0 < n) (hlies : liesAt Tryz.prog Tryz.prog.depth W (n / Tryz.prog.cellsOf W) 0 142 1 = true) (hfz : w.frozen? ⟨b, 0, none⟩ = false) :
    Calls Tryz.prog 125 #[.pointer (some ⟨b, 0, none⟩)] w fun e w' => e = .returned (.tuple #[]) ∧ w' = w.setCell ⟨b, 0, none⟩ (.pointer (some ⟨b, 0, none⟩)) := by
  obtain ⟨j, hj⟩ : ∃ j, Tryz.prog.info? 142 = some j := Option.isSome_iff_exists.1 (by kernel_rfl)
  have hjs : j.size ≠ 0 := by
    have : (Tryz.prog.info? 142).map (·.size) = some 2 := by kernel_rfl
    rw [hj] at this
    simp only [Option.map_some, Option.some.injEq] at this
    omega
  go_enter Tryz.func125, Tryz.ntmps125
  go_wp2
  rw [Lib.run_to_unsafe w ⟨b, 0, none⟩ Tryz.underlying140 Tryz.underlying198 hj hjs hsh hn]
  simp only [Result.andThen]
  rw [Oper.upon_value]
  go_wp2
  rw [run_callFunc_extern Tryz.func135 (by kernel_rfl) (by kernel_rfl) (by kernel_rfl) (e := Extern.AbiNoEscape.same) (by kernel_rfl)]
  rw [Lib.run_noEscape]
  simp only [Result.andThen]
  rw [Oper.upon_value]
  go_wp2
  rw [Lib.run_from_unsafe w ⟨b, 0, none⟩ Tryz.underlying198 Tryz.underlying140 hj hsh hlies]
  simp only [Result.andThen]
  rw [Oper.upon_value]
  go_wp2
  go_end0
  exact ⟨rfl, rfl⟩
end Go.Proofs.YtmfilaagpobmbaaGreatDoor

namespace Go.Proofs.YtmfilaagpobmbaaGreatDoor
open Go Go.Abs
theorem c_copyCheck (c0 : A1) (h0 : c0 = .imm .nilp ∨ c0 = .ref 0 0) (rest : List A1) (T : Nat) (hlies : liesAt Tryz.prog Tryz.prog.depth T ((rest.length + 1) / Tryz.prog.cellsOf T) 0 142 1 = true) (K : AV → List Blk → Prop) (hk : K (.tup []) [.cells (.ref 0 0 :: rest) (some T)]) : SP 125 [.one (.ref 0 0)] [.cells (c0 :: rest) (some T)] K := by
  intro w g vs hs ha
  obtain ⟨v, m, hv, hx, ht⟩ := ha.uncons
  have := ht.nil_inv; subst this
  have hvs : vs = #[v] := by apply Array.toList_inj.1; rw [hv]
  obtain ⟨b, c, ty, fz, ho, hb, hu, hL, hty⟩ := hs.blk 0 _ rfl
  obtain rfl := hty T rfl
  obtain ⟨r, hr, rfl⟩ := (show A1R w g (.ref 0 0) v from hx)
  rw [ho] at hr
  simp only [List.mem_singleton] at hr
  subst hr
  subst hvs
  have hcs : c.size = rest.length + 1 := by have := hL.1; simpa using this.symm
  have hcell : w.cell? ⟨b, 0, none⟩ = c[0]? := by simp [World.cell?, hb]
  obtain ⟨u0, hu0, hr0⟩ := hL.2 0 c0 rfl
  have hu0 : c[0]? = some u0 := by simpa using hu0
  have htup : AVR w g (.tup []) (.tuple #[]) := ⟨_, rfl, L2.nil⟩
  have hfn : ∃ fn, Tryz.prog.funcs[125]? = some fn ∧ (fn.name == "runtime.NumGoroutine") = false ∧ fn.body.isNone = false := ⟨_, Tryz.func125, by kernel_rfl, by kernel_rfl⟩
  refine ⟨hfn, ?_⟩
  rcases h0 with rfl | rfl
  · have e : u0 = .pointer none := by cases (show Rd w g.imm .nilp u0 from hr0); rfl
    subst e
    have hsh : w.shape? b = some (ty, c.size) := by simp [World.shape?, hb]
    refine (copyCheck_fresh b ty c.size w (hcell.trans hu0) hsh (by omega) (by rw [hcs]; exact hlies) (by simp only [World.frozen?, hb]; exact hu 0 (by omega))).mono ?_
    rintro e w' ⟨rfl, rfl⟩
    have hbl := (Array.getElem?_eq_some_iff.1 hb).1
    have hheap : (w.setCell ⟨b, 0, none⟩ (.pointer (some ⟨b, 0, none⟩))).heap = w.heap.setIfInBounds b (.cells (c.setIfInBounds 0 (.pointer (some ⟨b, 0, none⟩))) ty fz) := by
      apply Array.ext_getElem?
      intro i
      simp only [World.setCell, Array.getElem?_modify, Array.getElem?_setIfInBounds]
      by_cases e : b = i
      · subst e
        rw [if_pos rfl, if_pos rfl, if_pos hbl, hb]; rfl
      · rw [if_neg e, if_neg e]
    have hsz : (c.setIfInBounds 0 (Value.pointer (some ⟨b, 0, none⟩))).size = c.size := by simp
    have hob : Owned g [.cells (.imm .nilp :: rest) (some ty)] b := ⟨0, _, rfl, rfl, _, by rw [ho]; exact List.mem_singleton.2 rfl, rfl⟩
    have hrd : ∀ iv v, Rd w g.imm iv v → Rd (w.setCell ⟨b, 0, none⟩ (.pointer (some ⟨b, 0, none⟩))) g.imm iv v := fun iv v h => h.keep (fun _ h => h) (fun k hk => by rw [hheap, Array.getElem?_setIfInBounds, if_neg (fun (e : b = k) => hs.imm b hob (e ▸ hk))])
    obtain ⟨s1, st1⟩ := sim_write (w' := w.setCell ⟨b, 0, none⟩ (.pointer (some ⟨b, 0, none⟩))) (B' := .cells (.ref 0 0 :: rest) (some ty)) hs (id := 0) rfl rfl rfl ⟨_, by rw [ho]; exact List.mem_singleton.2 rfl, rfl⟩ hheap rfl rfl rfl
      ⟨b, c.setIfInBounds 0 (.pointer (some ⟨b, 0, none⟩)), ty, fz, by rw [ho]; rfl, by rw [hheap, Array.getElem?_setIfInBounds, if_pos rfl, if_pos hbl], by rw [hsz]; exact hu, by
        refine ⟨by simp [hcs], fun i a hi => ?_⟩
        cases i with
        | zero =>
          obtain rfl : A1.ref 0 0 = a := by simpa using hi
          exact ⟨.pointer (some ⟨b, 0, none⟩), by rw [Array.getElem?_toList, Array.getElem?_setIfInBounds, if_pos rfl, if_pos (by omega)], ⟨_, by rw [ho]; exact List.mem_singleton.2 rfl, rfl⟩⟩
        | succ i =>
          obtain ⟨u, hu1, hu2⟩ := hL.2 (i + 1) a (by simpa using hi)
          refine ⟨u, ?_, A1R.keep hrd (.refl g) hu2⟩
          simp only [Array.getElem?_toList] at hu1 ⊢
          rw [Array.getElem?_setIfInBounds, if_neg (by omega)]; exact hu1, fun t ht => hty t ht⟩
    exact ⟨.tuple #[], g, .tup [], _, rfl, s1, st1, .refl g, by simp, ⟨_, rfl, L2.nil⟩, hk⟩
  · obtain ⟨r', hr', e⟩ := (show A1R w g (.ref 0 0) u0 from hr0)
    rw [ho] at hr'
    simp only [List.mem_singleton] at hr'
    subst hr' e
    refine (copyCheck_used b w (hcell.trans hu0)).mono ?_
    rintro e w' ⟨rfl, rfl⟩
    exact ⟨.tuple #[], g, .tup [], _, rfl, hs, .refl _ _ _, .refl g, by simp, htup, hk⟩
theorem c_copyCheckB (rest : List A1) (more : List Blk) (ty : Option Nat) (K : AV → List Blk → Prop) (hk : K (.tup []) (.cells (.ref 0 0 :: rest) ty :: more)) : SP 125 [.one (.ref 0 0)] (.cells (.ref 0 0 :: rest) ty :: more) K := by
  intro w g vs hs ha
  obtain ⟨v, m, hv, hx, ht⟩ := ha.uncons
  have := ht.nil_inv; subst this
  have hvs : vs = #[v] := by apply Array.toList_inj.1; rw [hv]
  obtain ⟨b, c, ty', fz, ho, hb, hu, hL, hty⟩ := hs.blk 0 _ rfl
  obtain ⟨r, hr, rfl⟩ := (show A1R w g (.ref 0 0) v from hx)
  rw [ho] at hr
  simp only [List.mem_singleton] at hr
  subst hr
  subst hvs
  have hcell : w.cell? ⟨b, 0, none⟩ = c[0]? := by simp [World.cell?, hb]
  obtain ⟨u0, hu0, hr0⟩ := hL.2 0 (.ref 0 0) rfl
  have hu0 : c[0]? = some u0 := by simpa using hu0
  have htup : AVR w g (.tup []) (.tuple #[]) := ⟨_, rfl, L2.nil⟩
  have hfn : ∃ fn, Tryz.prog.funcs[125]? = some fn ∧ (fn.name == "runtime.NumGoroutine") = false ∧ fn.body.isNone = false := ⟨_, Tryz.func125, by kernel_rfl, by kernel_rfl⟩
  refine ⟨hfn, ?_⟩
  obtain ⟨r', hr', e⟩ := (show A1R w g (.ref 0 0) u0 from hr0)
  rw [ho] at hr'
  simp only [List.mem_singleton] at hr'
  subst hr' e
  refine (copyCheck_used b w (hcell.trans hu0)).mono ?_
  rintro e w' ⟨rfl, rfl⟩
  exact ⟨.tuple #[], g, .tup [], _, rfl, hs, .refl _ _ _, .refl g, by simp, htup, hk⟩
end Go.Proofs.YtmfilaagpobmbaaGreatDoor

namespace Go.Proofs.YtmfilaagpobmbaaGreatDoor
open Go Go.Abs
/-- the writer once begun: what it holds, and the bytes written -/
abbrev wB (bad : Bool) (l : List (List IV)) : List Blk := [.cells [.ref 0 0, .sl 1 0 l.length, .imm (.bool bad)] (some 144), .vec 1 l true (some 5)]
abbrev wA (bad : Bool) : List Blk := [.cells [.imm .nilp, .nils, .imm (.bool bad)] (some 144)]
/-- the writer behind its first write -/
abbrev wC (bad : Bool) (l : List (List IV)) : List Blk := [.cells [.ref 0 0, .sl 2 0 l.length, .imm (.bool bad)] (some 144), .dead, .vec 1 l true (some 5)]
theorem wB_app (bad : Bool) (l m : List (List IV)) : wB bad (l ++ m) = [.cells [.ref 0 0, .sl 1 0 (l.length + m.length), .imm (.bool bad)] (some 144), .vec 1 (l ++ m) true (some 5)] := by
  unfold wB; rw [List.length_append]
theorem c_WriteByteB (bad : Bool) (l : List (List IV)) (x : Int) (hl : l.length < 1099511627776) (Q) (hq : Q .undef (wB bad (l ++ [[.int .u8 x]]))) : SP 111 [.one (.ref 0 0), .i (.int .u8 x)] (wB bad l) Q := by
  rw [wB_app] at hq
  refine mk {res := false, inc := 2} (fn := Tryz.f111) Tryz.func111 (by kernel_rfl) (by kernel_rfl) (Nat.le_of_ble_eq_true (Eq.refl true)) fun S hS => ?_
  conv => whnf
  refine hS _ _ _ _ <| c_copyCheckB _ _ _ _ ?_
  conv => whnf
  refine ⟨by omega, ?_, ?_⟩
  · show (l.length + 1) * 1 ≤ _
    omega
  conv => whnf
  exact hq
theorem c_WriteByteA (bad : Bool) (x : Int) (Q) (hq : Q .undef (wC bad [[.int .u8 x]])) : SP 111 [.one (.ref 0 0), .i (.int .u8 x)] (wA bad) Q := by
  refine mk {res := false, inc := 1} (fn := Tryz.f111) Tryz.func111 (by kernel_rfl) (by kernel_rfl) (Nat.le_of_ble_eq_true (Eq.refl true)) fun S hS => ?_
  conv => whnf
  refine hS _ _ _ _ <| c_copyCheck _ (.inl rfl) _ 144 (by kernel_rfl) _ ?_
  conv => whnf
  refine ⟨Nat.le_of_ble_eq_true (Eq.refl true), ?_⟩
  conv => whnf
  exact hq
theorem c_LenB (bad : Bool) (l : List (List IV)) (Q) (hq : Q (.i (.int .i64 (l.length : Int))) (wB bad l)) : SP 81 [.one (.ref 0 0)] (wB bad l) Q := by
  refine mk {res := false, inc := 2} (fn := Tryz.f81) Tryz.func81 (by kernel_rfl) (by kernel_rfl) (Nat.le_of_ble_eq_true (Eq.refl true)) fun S hS => ?_
  conv => whnf
  exact hq
theorem c_LenA (bad : Bool) (Q) (hq : Q (.i (.int .i64 0)) (wA bad)) : SP 81 [.one (.ref 0 0)] (wA bad) Q := by
  refine mk {res := false, inc := 1} (fn := Tryz.f81) Tryz.func81 (by kernel_rfl) (by kernel_rfl) (Nat.le_of_ble_eq_true (Eq.refl true)) fun S hS => ?_
  conv => whnf
  exact hq
theorem c_WriteStringB (bad : Bool) (l : List (List IV)) (s : ByteArray) (hl : l.length < 1099511627776) (hs : s.size < 1099511627776) (Q) (hq : Q (.tup [.i (.int .i64 (s.size : Int)), .undef]) (wB bad (l ++ bytesIV s))) : SP 108 [.one (.ref 0 0), .i (.str s)] (wB bad l) Q := by
  rw [wB_app] at hq
  refine mk {res := false, inc := 2} (fn := Tryz.f108) Tryz.func108 (by kernel_rfl) (by kernel_rfl) (Nat.le_of_ble_eq_true (Eq.refl true)) fun S hS => ?_
  conv => whnf
  refine hS _ _ _ _ <| c_copyCheckB _ _ _ _ ?_
  conv => whnf
  refine ⟨by omega, ?_, ?_⟩
  · show (l.length + (bytesIV s).length) * 1 ≤ _
    rw [bytesIV_length]
    omega
  conv => whnf
  exact hq
end Go.Proofs.YtmfilaagpobmbaaGreatDoor

namespace Go.Proofs.YtmfilaagpobmbaaGreatDoor
open Go Go.Shelf Go.RowKit Go.Proofs
set_option maxHeartbeats 2000000 in
set_option maxRecDepth 100000 in
theorem builder_string (b g n cap : Nat) (l : List UInt8) (w : World) (h0 : l ≠ []) (hc0 : cap ≠ 0) (hn : l.length ≤ n) (h63 : l.length ≤ 9223372036854775807)
    (c1' : w.cell? ⟨b, 1, none⟩ = some (.slice (some ⟨g, 0, none⟩) l.length cap)) (hsh : w.shape? g = some (5, n))
    (hcells : ∀ j x, l[j]? = some x → w.cell? ((⟨g, 0, none⟩ : Addr).add j) = some (.int .u8 x.toNat)) :
    Calls Tryz.prog 82 #[.pointer (some ⟨b, 0, none⟩)] w fun e w' => e = .returned (.string ⟨l.toArray⟩) ∧ w' = w.drew.freeze ⟨g, 0, none⟩ l.length := by
  have c1 : w.drew.cell? ⟨b, 1, none⟩ = some (.slice (some ⟨g, 0, none⟩) l.length cap) := c1'
  have hSD : ∀ ts ty, (Builtin.unsafeSliceData_ ts ty #[.slice (some ⟨g, 0, none⟩) l.length cap]).run Tryz.prog w.drew = .ok (.pointer (some ⟨g, 0, none⟩)) w.drew := fun ts ty =>
    Lib.run_unsafeSliceData_row _ _ _ _ _ _ hc0
  have hUS : ∀ it ty, (Builtin.unsafeString_ #[176, it] ty #[.pointer (some ⟨g, 0, none⟩), .int .i64 l.length]).run Tryz.prog w.drew = .ok (.string ⟨l.toArray⟩) (w.drew.freeze ⟨g, 0, none⟩ l.length) := fun it ty =>
    Lib.run_unsafeString_row w.drew 176 it ty 5 (by kernel_rfl) (by kernel_rfl) g n hsh l h0 hn h63 hcells
  go_enter Tryz.func82, Tryz.ntmps82
  go_wp2
  go_region
  all_goals (go_wp2; go_ret; exact ⟨rfl, rfl⟩)
end Go.Proofs.YtmfilaagpobmbaaGreatDoor

namespace Go.Proofs.YtmfilaagpobmbaaGreatDoor
open Go Go.Abs
theorem bytesIV_at (s : ByteArray) (i : Nat) (x : UInt8) (h : s.data.toList[i]? = some x) : (bytesIV s)[i]? = some [IV.int .u8 (x.toNat : Int)] := by
  unfold bytesIV; rw [List.getElem?_map, h]; rfl
/-- the text that was written; what holds it is given up -/
theorem c_String (bad : Bool) (s : ByteArray) (hs0 : 0 < s.size) (hs1 : s.size < 1099511627776) (L : List (List IV)) (hLe : L = bytesIV s) (K : AV → List Blk → Prop) (hk : K (.i (.str s)) [.dead, .dead]) : SP 82 [.one (.ref 0 0)] (wB bad L) K := by
  subst hLe
  intro w g vs hs ha
  obtain ⟨v, m, hv, hx, ht⟩ := ha.uncons
  have := ht.nil_inv; subst this
  have hvs : vs = #[v] := by apply Array.toList_inj.1; rw [hv]
  obtain ⟨b, c, ty, fz, ho, hb, hu, hL, hty⟩ := hs.blk 0 _ rfl
  obtain ⟨hes, r0, rs, ho1, hn0, _, hlt, hver⟩ := hs.blk 1 _ rfl
  obtain ⟨r, hr, rfl⟩ := (show A1R w g (.ref 0 0) v from hx)
  rw [ho] at hr
  simp only [List.mem_singleton] at hr
  subst hr
  subst hvs
  have hlen := bytesIV_length s
  obtain ⟨u1, hu1, hr1⟩ := hL.2 1 (.sl 1 0 (bytesIV s).length) rfl
  obtain ⟨q, hq, a, cap, rfl, q1, q2, q3, q4, q5⟩ := (show A1R w g (.sl 1 0 (bytesIV s).length) u1 from hr1)
  rw [hlen] at hu1 q2 q4
  have hcap : cap ≠ 0 := by omega
  have hq5 : a = ⟨q.blk, (0 - q.start) * q.sz, none⟩ := q5.resolve_left hcap
  have hq0 : q.start = 0 := by omega
  rw [hq0, Nat.sub_self, Nat.zero_mul] at hq5
  subst hq5
  obtain ⟨v1, v2, v3, v4, cc, tty, fz', p1, p2, p3, p4, p5⟩ := hver q (by rw [← ho1]; exact hq)
  obtain rfl := p4 5 rfl
  have hob : Owned g (wB bad (bytesIV s)) q.blk := ⟨1, _, rfl, rfl, q, hq, rfl⟩
  have hll : s.data.toList.length = s.size := rfl
  have hne : s.data.toList ≠ [] := by intro e; rw [e] at hll; exact absurd hll (by show ¬ (0 = s.size); omega)
  have hcell : ∀ j x, s.data.toList[j]? = some x → w.cell? ((⟨q.blk, 0, none⟩ : Addr).add j) = some (.int .u8 x.toNat) := by
    intro j x hx
    have hj : j < s.size := by rw [← hll]; exact (List.getElem?_eq_some_iff.1 hx).1
    obtain ⟨u, k1, k2⟩ := p5 j _ (by omega) (by omega) (bytesIV_at s j x hx) 0 _ rfl
    rw [hq0, Nat.sub_zero, Nat.mul_one, Nat.add_zero] at k1
    rw [rd_int k2] at k1
    rw [show ((⟨q.blk, 0, none⟩ : Addr).add j) = ⟨q.blk, j, none⟩ from by unfold Addr.add; by_cases e : j = 0 <;> simp [e]]
    simp only [World.cell?, p1]; simpa using k1
  have hfn : ∃ fn, Tryz.prog.funcs[82]? = some fn ∧ (fn.name == "runtime.NumGoroutine") = false ∧ fn.body.isNone = false := ⟨_, Tryz.func82, by kernel_rfl, by kernel_rfl⟩
  refine ⟨hfn, ?_⟩
  have hc1 : w.cell? ⟨b, 1, none⟩ = some (.slice (some ⟨q.blk, 0, none⟩) s.data.toList.length cap) := by
    rw [hll]; simp only [World.cell?, hb]; simpa using hu1
  refine (builder_string b q.blk cc.size cap s.data.toList w hne hcap (by rw [hll, p3]; omega) (by rw [hll]; omega) hc1 (by simp [World.shape?, p1]) hcell).mono ?_
  rintro e w' ⟨rfl, rfl⟩
  have hsz : (w.drew.freeze ⟨q.blk, 0, none⟩ s.data.toList.length).heap.size = w.heap.size := by
    unfold World.freeze; split
    · rfl
    · show (Array.modify w.heap _ _).size = _; simp
  have hkeep : ∀ k, q.blk ≠ k → (w.drew.freeze ⟨q.blk, 0, none⟩ s.data.toList.length).heap[k]? = w.heap[k]? := by
    intro k hk
    unfold World.freeze; split
    · rfl
    · show (Array.modify w.heap _ _)[k]? = _
      rw [Array.getElem?_modify, if_neg hk]
  have hno : ∀ k, ¬ Owned g [Blk.dead, Blk.dead] k := by
    rintro k ⟨id, B, h1, h2, _⟩
    match id, h1 with
    | 0, h1 => cases h1; cases h2
    | 1, h1 => cases h1; cases h2
  have hrd : ∀ iv v, Rd w g.imm iv v → Rd (w.drew.freeze ⟨q.blk, 0, none⟩ s.data.toList.length) g.imm iv v := fun iv v h => h.keep (fun _ h => h) (fun k hk => hkeep k (fun (e : q.blk = k) => hs.imm q.blk hob (e ▸ hk)))
  have s1 : Sim E (w.drew.freeze ⟨q.blk, 0, none⟩ s.data.toList.length) g [Blk.dead, Blk.dead] := by
    refine ⟨fun id B h => ?_, fun id B id' B' r r' h1 h2 => ?_, fun k h => (hno k h).elim, fun k hk => by rw [hsz]; exact hs.lt k hk, fun id h => hs.nil id h, fun k cells h => hrd _ _ (hs.glob k cells h)⟩
    · match id, h with
      | 0, h => cases h; trivial
      | 1, h => cases h; trivial
    · match id, h1 with
      | 0, h1 => cases h1; cases h2
      | 1, h1 => cases h1; cases h2
  have st : Step w g (wB bad (bytesIV s)) (w.drew.freeze ⟨q.blk, 0, none⟩ s.data.toList.length) g [Blk.dead, Blk.dead] := by
    refine ⟨?_, ?_, ?_, by rw [hsz]; exact Nat.le_refl _, fun k _ hk => hkeep k (fun (e : q.blk = k) => hk (e ▸ hob)), fun _ h => h, fun _ h => .inl h, fun k h => (hno k h).elim⟩
    all_goals (unfold World.freeze; split <;> rfl)
  exact ⟨_, g, .i (.str s), _, rfl, s1, st, .refl g, by simp, .str _, hk⟩
end Go.Proofs.YtmfilaagpobmbaaGreatDoor
