/- The library's sort and compact at this program, laid in plain words; their contracts over heaps, under a length that each states. -/
import Derived.Test.YtjpgcjbcfodicaaT
import Derived.Shelf.Sort.Plain
import Derived.Shelf.Slices.In.SortNone
import Derived.Shelf.Slices.CompactI
import Derived.Sort.OwnSortedInts
namespace Go.Proofs
open Go.Shelf
def Try.lays189_ren : Go.Shelf.Ren := ⟨fun | 189 => 39 | 125 => 62 | 257 => 61 | 128 => 75 | 129 => 76 | 294 => 66 | 295 => 67 | 296 => 68 | 297 => 69 | 298 => 70 | 299 => 71 | 216 => 72 | 300 => 73 | 301 => 74 | 328 => 77 | 329 => 78 | 330 => 79 | 331 => 80 | 332 => 81 | 215 => 82 | 343 => 83 | n => n, fun | 28 => 34 | 3 => 3 | 46 => 49 | 0 => 0 | 51 => 109 | 53 => 111 | 4 => 4 | 183 => 101 | 182 => 100 | 131 => 106 | 5 => 5 | 9 => 9 | 218 => 112 | 222 => 116 | 228 => 118 | 229 => 119 | n => n, fun | n => n⟩
theorem Try.lays189 : Go.Proofs.Lays.n189 Try.prog Try.lays189_ren := {
  mixed := by kernel_rfl
  f125 := Try.func62.trans (congrArg some (by kernel_rfl))
  f128 := Try.func75.trans (congrArg some (by kernel_rfl))
  f129 := Try.func76.trans (congrArg some (by kernel_rfl))
  f189 := Try.func39.trans (congrArg some (by kernel_rfl))
  f215 := Try.func82.trans (congrArg some (by kernel_rfl))
  f216 := Try.func72.trans (congrArg some (by kernel_rfl))
  f257 := Try.func61.trans (congrArg some (by kernel_rfl))
  f294 := Try.func66.trans (congrArg some (by kernel_rfl))
  f295 := Try.func67.trans (congrArg some (by kernel_rfl))
  f296 := Try.func68.trans (congrArg some (by kernel_rfl))
  f297 := Try.func69.trans (congrArg some (by kernel_rfl))
  f298 := Try.func70.trans (congrArg some (by kernel_rfl))
  f299 := Try.func71.trans (congrArg some (by kernel_rfl))
  f300 := Try.func73.trans (congrArg some (by kernel_rfl))
  f301 := Try.func74.trans (congrArg some (by kernel_rfl))
  f328 := Try.func77.trans (congrArg some (by kernel_rfl))
  f329 := Try.func78.trans (congrArg some (by kernel_rfl))
  f330 := Try.func79.trans (congrArg some (by kernel_rfl))
  f331 := Try.func80.trans (congrArg some (by kernel_rfl))
  f332 := Try.func81.trans (congrArg some (by kernel_rfl))
  f343 := Try.func83.trans (congrArg some (by kernel_rfl))
  t0 := Try.underlying0
  a0 := Try.isAgg0
  z0 := Try.sizeOf0
  v0 := Try.zeroValue0
  t3 := Try.underlying3
  a3 := Try.isAgg3
  z3 := Try.sizeOf3
  v3 := Try.zeroValue3
  t4 := Try.underlying4
  a4 := Try.isAgg4
  z4 := Try.sizeOf4
  v4 := Try.zeroValue4
  t5 := Try.underlying5
  a5 := Try.isAgg5
  z5 := Try.sizeOf5
  v5 := Try.zeroValue5
  t9 := Try.underlying9
  a9 := Try.isAgg9
  z9 := Try.sizeOf9
  v9 := Try.zeroValue9
  t28 := Try.underlying34
  a28 := Try.isAgg34
  z28 := Try.sizeOf34
  v28 := Try.zeroValue34
  t46 := Try.underlying49
  a46 := Try.isAgg49
  z46 := Try.sizeOf49
  v46 := Try.zeroValue49
  t51 := Try.underlying109
  a51 := Try.isAgg109
  z51 := Try.sizeOf109
  v51 := Try.zeroValue109
  t53 := Try.underlying111
  a53 := Try.isAgg111
  z53 := Try.sizeOf111
  v53 := Try.zeroValue111
  t131 := Try.underlying106
  a131 := Try.isAgg106
  z131 := Try.sizeOf106
  v131 := Try.zeroValue106
  t182 := Try.underlying100
  a182 := Try.isAgg100
  z182 := Try.sizeOf100
  v182 := Try.zeroValue100
  t183 := Try.underlying101
  a183 := Try.isAgg101
  z183 := Try.sizeOf101
  v183 := Try.zeroValue101
  t218 := Try.underlying112
  a218 := Try.isAgg112
  z218 := Try.sizeOf112
  v218 := Try.zeroValue112
  t222 := Try.underlying116
  a222 := Try.isAgg116
  z222 := Try.sizeOf116
  v222 := Try.zeroValue116
  t228 := Try.underlying118
  a228 := Try.isAgg118
  z228 := Try.sizeOf118
  v228 := Try.zeroValue118
  t229 := Try.underlying119
  a229 := Try.isAgg119
  z229 := Try.sizeOf119
  v229 := Try.zeroValue119 }
def Try.lays2_20_ren : Go.Shelf.Ren := ⟨fun | 20 => 40 | n => n, fun | 22 => 34 | 3 => 3 | 4 => 4 | 0 => 0 | n => n, fun | n => n⟩
theorem Try.lays2_20 : Go.Proofs.Lays2.n20 Try.prog Try.lays2_20_ren := {
  mixed := by kernel_rfl
  f20 := Try.func40.trans (congrArg some (by kernel_rfl))
  t0 := Try.underlying0
  a0 := Try.isAgg0
  z0 := Try.sizeOf0
  v0 := Try.zeroValue0
  t3 := Try.underlying3
  a3 := Try.isAgg3
  z3 := Try.sizeOf3
  v3 := Try.zeroValue3
  t4 := Try.underlying4
  a4 := Try.isAgg4
  z4 := Try.sizeOf4
  v4 := Try.zeroValue4
  t22 := Try.underlying34
  a22 := Try.isAgg34
  z22 := Try.sizeOf34
  v22 := Try.zeroValue34
  i3 := by kernel_rfl }
end Go.Proofs
namespace Go.Eng
open Go.Proofs Go.Shelf Go.Sort
/-- The library's sort. -/
theorem sort_lay {v : Value} {l : List Int} {h : Heap} {base : Nat} (O : Own h base t_int 1 v l.length (icells l)) (hl : l.length < 4611686018427387904) :
    Spec PP f_slices_Sort_int_int #[v] h (fun u h' => u = .tuple #[] ∧ Own h' base t_int 1 v l.length (icells (l.mergeSort fun x y => decide (x ≤ y))) ∧ Keeps (fun b => v.ownBlock ≠ some b) h h') := by
  intro w hw
  subst hw
  obtain ⟨q1, ⟨rfl, q2⟩ | ⟨g, cap, cur, rfl, hb, hg, hn, hm, hs, ht⟩⟩ := O
  · have e0 : l = [] := List.eq_nil_of_length_eq_zero q2
    subst e0
    refine (Any.slices_Sort_int_none Try.lays189 none 0 w).mono ?_
    rintro x w' ⟨rfl, rfl⟩
    exact ⟨Rest.refl _, rfl, by rw [List.mergeSort_nil]; exact Own.nil _ _ _ _, Keeps.refl _ _⟩
  · rw [Nat.mul_one] at ht
    refine (Any.slices_Sort_int Try.lays189 g 0 cap l w (holds_of_blockI hg ht) (Array.getElem?_eq_some_iff.1 hg).1 hl).mono ?_
    rintro x w' ⟨rfl, n, os, rfl⟩
    have hlen : (l.mergeSort fun x y => decide (x ≤ y)).length = l.length := List.length_mergeSort l
    have o := ownsRow_sortedI (w := w) (n := n) (os := os) (cap := cap) (base := base) (ss := l) hlen hb hg hn hm hs
    have gr := grownBy_sortedI (w := w) (g := g) (n := n) (os := os) (l.mergeSort fun x y => decide (x ≤ y)).toArray
    exact ⟨⟨gr.os, gr.output, gr.tape⟩, rfl, (own_iff ..).1 o, ⟨gr.size, fun b hb q => gr.block b hb fun e => q e.symm⟩⟩
theorem compact_le (l : List Int) : (Lib.compact l).length ≤ l.length := by
  unfold Lib.compact Lib.compactUpTo
  rw [List.length_map]
  have := List.length_filter_le (Lib.keeps l.toArray) (List.range l.length)
  rwa [List.length_range] at this
theorem compact_lay {v : Value} {l : List Int} {h : Heap} {base : Nat} (O : Own h base t_int 1 v l.length (icells l)) (hl : l.length < 4611686018427387904) :
    Spec PP f_slices_Compact_int_int #[v] h (fun r h' => ∃ u, r = u ∧ Own h' base t_int 1 u (Lib.compact l).length (icells (Lib.compact l)) ∧ Keeps (fun b => v.ownBlock ≠ some b) h h') := by
  intro w hw
  subst hw
  obtain ⟨q1, ⟨rfl, q2⟩ | ⟨g, cap, cur, rfl, hb, hg, hn, hm, hs, ht⟩⟩ := O
  · have e0 : l = [] := List.eq_nil_of_length_eq_zero q2
    subst e0
    refine (Any.slices_Compact_int_empty Try.lays2_20 none 0 w).mono ?_
    rintro x w' ⟨rfl, rfl⟩
    exact ⟨Rest.refl _, _, rfl, Own.nil _ _ _ _, Keeps.refl _ _⟩
  · rw [Nat.mul_one] at ht
    refine (Any.slices_Compact_int Try.lays2_20 g 0 cap l w (holds_of_blockI hg ht) (by omega) hn).mono ?_
    rintro x w' ⟨rfl, n, rfl⟩
    have hc := compact_le l
    have hts : (Lib.compact l ++ List.replicate (l.length - (Lib.compact l).length) (0 : Int)).length = l.length := by simp; omega
    have o := ownsRow_sortedI (w := w) (n := n) (os := #[]) (cap := cap) (base := base) (ss := l) hts hb hg hn hm hs
    have gr := grownBy_sortedI (w := w) (g := g) (n := n) (os := #[]) (Lib.compact l ++ List.replicate (l.length - (Lib.compact l).length) (0 : Int)).toArray
    rw [grow_empty] at o gr
    have o2 := Own.take ((own_iff ..).1 o) hc
    have e1 : subv 1 (.slice (some ⟨g, 0, none⟩) l.length cap) 0 (Lib.compact l).length = .slice (some ⟨g, 0, none⟩) (Lib.compact l).length cap := by simp [subv, Addr.add]
    rw [e1] at o2
    refine ⟨⟨gr.os, gr.output, gr.tape⟩, _, rfl, ?_, ⟨gr.size, fun b hb q => gr.block b hb fun e => q e.symm⟩⟩
    have e2 : ((Lib.compact l ++ List.replicate (l.length - (Lib.compact l).length) (0 : Int)).map (Value.int .i64)).take ((Lib.compact l).length * 1) = icells (Lib.compact l) := by
      rw [Nat.mul_one, List.map_append, List.take_left' (by simp)]; rfl
    rw [e2] at o2
    exact o2
end Go.Eng
