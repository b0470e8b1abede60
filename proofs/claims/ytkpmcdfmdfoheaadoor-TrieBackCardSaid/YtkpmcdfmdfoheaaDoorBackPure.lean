/- A part of the proof of a seat of tries: BackPure. -/
import Derived.Test.YtkpmcdfmdfoheaaDoorS2
set_option linter.all false
namespace Go.Abs
open Go
section
variable {k v : ByteArray} (hk : k.size = 32) (hv : v.size < 1073741824) {t : T} (h : t.good)
include hk hv h
theorem back_get : (t.put k v).1.get k = some v := by
  obtain ⟨g, _, m, _⟩ := T.put_spec hk hv h
  rw [T.get_iff g, m]; exact .inl rfl
theorem back_none (hn : t.get k = none) : ((t.put k v).1.drop k).1 = t := by
  obtain ⟨g, _, m, _⟩ := T.put_spec hk hv h
  obtain ⟨g', m', _⟩ := T.drop_spec hk g
  refine T.ext g' h fun p => ?_
  rw [m', m]
  constructor
  · rintro ⟨e | e, e'⟩
    · rw [e] at e'; exact absurd rfl e'
    · exact e.1
  · intro hp
    have : p.1 ≠ k := fun e => by
      have := (T.get_iff (key := k) h p.2).2 (by rw [← e]; exact hp)
      rw [hn] at this; cases this
    exact ⟨.inr ⟨hp, this⟩, this⟩
theorem back_some {v0 : ByteArray} (hg : t.get k = some v0) : ((t.put k v).1.put k v0).1 = t := by
  have hm := (T.get_iff h v0).1 hg
  have hv0 := T.val_size h _ hm
  obtain ⟨g, _, m, _⟩ := T.put_spec hk hv h
  obtain ⟨g', _, m', _⟩ := T.put_spec hk hv0 g
  refine T.ext g' h fun p => ?_
  rw [m', m]
  constructor
  · rintro (e | ⟨e | e, e'⟩)
    · rw [e]; exact hm
    · rw [e] at e'; exact absurd rfl e'
    · exact e.1
  · intro hp
    by_cases e : p.1 = k
    · left; exact srt_uniq (T.sorted h) hp hm e
    · exact .inr ⟨.inr ⟨hp, e⟩, e⟩
theorem back_twice : ((t.put k v).1.put k v).1 = (t.put k v).1 := by
  obtain ⟨g, _, m, _⟩ := T.put_spec hk hv h
  obtain ⟨g', _, m', _⟩ := T.put_spec hk hv g
  refine T.ext g' g fun p => ?_
  rw [m', m]
  constructor
  · rintro (e | ⟨e, _⟩)
    · exact .inl e
    · exact e
  · rintro (e | e)
    · exact .inl e
    · exact .inr ⟨.inr e, e.2⟩
end
theorem drop_twice {k : ByteArray} (hk : k.size = 32) {t : T} (h : t.good) : ((t.drop k).1.drop k).1 = (t.drop k).1 := by
  obtain ⟨g, m, _⟩ := T.drop_spec hk h
  obtain ⟨g', m', _⟩ := T.drop_spec hk g
  refine T.ext g' g fun p => ?_
  rw [m', m]
  exact ⟨fun e => e.1, fun e => ⟨e, e.2⟩⟩
end Go.Abs
