/- The plain facts that the law rests on: code words, erasures, inverses; for every k and m that may be. -/
import Derived.Test.YtjpgcjbcfodicaaLaw
import Derived.Test.YtjpgcjbcfodicaaCode
import Derived.Test.YtjpgcjbcfodicaaGJ
set_option linter.unusedSimpArgs false
set_option linter.unusedVariables false
namespace Go.Eng
theorem gen_cw {k i : Nat} (x : Nat → UInt8) : (xsum k fun j => gmul (genM k i j) (x j)) = cw k x i := by
  unfold cw
  by_cases c : i < k
  · rw [if_pos c, xsum_one i c fun j hj hne => by rw [genM, if_pos c, if_neg (Ne.symm hne), zero_gmul]]
    rw [genM, if_pos c, if_pos rfl, one_gmul]
  · rw [if_neg c]
    refine xsum_congr fun j hj => ?_
    rw [genM, if_neg c, show par k (i - k) j = btw (k + (i - k)) j from rfl, show k + (i - k) = i by omega]
theorem cnt_out {N : Nat} : ∀ L : List Nat, L.Nodup → (∀ a ∈ L, a < N) → L.length + ((List.range N).filter fun i => decide (i ∉ L)).length = N
  | [], _, _ => by
    rw [List.filter_eq_self.2 (fun a _ => by simp)]
    simp
  | a :: L, hn, hb => by
    obtain ⟨h1, h2⟩ := List.nodup_cons.1 hn
    have ih := cnt_out L h2 (fun b hb' => hb b (List.mem_cons_of_mem _ hb'))
    have e : ((List.range N).filter fun i => decide (i ∉ a :: L)) = ((List.range N).filter fun i => decide (i ∉ L)).erase a := by
      rw [List.Nodup.erase_eq_filter (List.nodup_range.filter _), List.filter_filter]
      congr 1
      funext i
      by_cases c : i = a
      · subst c; simp
      · simp [c]
    have hm : a ∈ (List.range N).filter fun i => decide (i ∉ L) := by
      rw [List.mem_filter, List.mem_range]
      exact ⟨hb a List.mem_cons_self, by simpa using h1⟩
    have := List.length_pos_of_mem hm
    rw [e, List.length_erase_of_mem hm, List.length_cons]
    omega
/-- k bytes of a code word tell all. -/
theorem mds {k m : Nat} (hkm : k + m ≤ 256) {ls : List Nat} (hl : ls.length = k) (hn : ls.Nodup) (hb : ∀ a ∈ ls, a < k + m) (x : Nat → UInt8) (h : ∀ i ∈ ls, cw k x i = 0) : ∀ j, j < k → x j = 0 := by
  intro i0 hi0
  rcases Classical.em (x i0 = 0) with q | q
  · exact q
  exfalso
  have hw0 : cw k x i0 = x i0 := if_pos hi0
  have hn0 : i0 ∉ ls := fun e => q (hw0 ▸ h i0 e)
  have hc := cnt_out (N := k + m) (i0 :: ls) (List.nodup_cons.2 ⟨hn0, hn⟩) (fun a ha => by
    rcases List.mem_cons.1 ha with e | e
    · omega
    · exact hb a e)
  rw [List.length_cons, hl] at hc
  have hd := syn_dual (w := cw k x) (fun l hl' => syn_cw x hkm hl') (locP (((List.range (k + m)).filter fun i => decide (i ∉ i0 :: ls)).map X8)) (by
    rw [(locP_nm _).2, List.length_map]; omega)
  rw [xsum_one i0 (by omega) fun j hj hne => ?_] at hd
  · rcases gmul_eq_zero hd with e | e
    · rcases gmul_eq_zero e with e | e
      · exact q (hw0 ▸ e)
      · exact wgt_ne hkm (by omega) e
    · have := (loc_root _ _).1 e
      obtain ⟨j, h1, h2⟩ := List.mem_map.1 this
      rw [List.mem_filter, List.mem_range] at h1
      have := X8_inj (by omega) (by omega) h2
      subst this
      simp at h1
  · by_cases c : j ∈ ls
    · rw [h j c, zero_gmul, zero_gmul]
    · have : evalP (locP (((List.range (k + m)).filter fun i => decide (i ∉ i0 :: ls)).map X8)) (X8 j) = 0 := (loc_root _ _).2 (List.mem_map.2 ⟨j, by rw [List.mem_filter, List.mem_range]; exact ⟨hj, by simp [c, hne]⟩, rfl⟩)
      rw [this, gmul_zero]
theorem pick_inj {k m : Nat} (hkm : k + m ≤ 256) {ls : List Nat} (hl : ls.length = k) (hn : ls.Nodup) (hb : ∀ a ∈ ls, a < k + m) : Inj k (pickM (genM k) ls k) := by
  intro x hx
  refine mds hkm hl hn hb x fun i hi => ?_
  obtain ⟨r, hr, rfl⟩ := List.getElem_of_mem hi
  have := hx r (by omega)
  rw [← gen_cw, ← this]
  refine xsum_congr fun j _ => ?_
  rw [pickM, if_pos (by omega), List.getD_eq_getElem?_getD, List.getElem?_eq_getElem hr]; rfl
/-- All shards of one byte each. -/
theorem encI_col {k m : Nat} {d : List UInt8} (hk : 1 ≤ k) (hd : d.length = k) : ∀ j, j ≤ k → encI k m (colL d) j = (List.range (k + m)).map fun i => if i < k then [cf d i] else [xsum j fun q => gmul (par k (i - k) q) (cf d q)]
  | 0, _ => by
    apply List.ext_getElem (by simp [encI, colL, hd])
    intro i h1 h2
    simp only [encI, List.getElem_map, List.getElem_range]
    by_cases c : i < k
    · rw [if_pos c, List.getElem_append_left (by simp [colL, hd]; exact c)]
      simp only [colL, List.getElem_map]
      rw [cf_lt (by omega)]
    · rw [if_neg c, List.getElem_append_right (by simp [colL, hd]; omega), List.getElem_replicate]
      have hh : ((colL d).headD []).length = 1 := by
        cases d with
        | nil => simp at hd; omega
        | cons a l => rfl
      rw [hh]; rfl
  | j + 1, h => by
    apply List.ext_getElem (by simp [encI_len, colL, hd])
    intro i h1 h2
    have ih := encI_col (m := m) hk hd j (by omega)
    simp only [List.length_map, List.length_range] at h2
    simp only [encI, addL, List.getElem_mapIdx, List.getElem_map, List.getElem_range]
    have hi : (encI k m (colL d) j)[i]'(by rw [encI_len]; simp [colL, hd]; omega) = if i < k then [cf d i] else [xsum j fun q => gmul (par k (i - k) q) (cf d q)] := by
      simp only [ih, List.getElem_map, List.getElem_range]
    rw [hi]
    by_cases c : i < k
    · rw [if_neg (by omega), if_pos c, if_pos c]
    · rw [if_pos (by omega), if_neg c, if_neg c]
      have : (colL d).getD j [] = [cf d j] := by
        rw [List.getD_eq_getElem?_getD, List.getElem?_eq_getElem (by simp [colL, hd]; omega)]
        simp only [colL, List.getElem_map, Option.getD_some]
        rw [cf_lt (by omega)]
      rw [this]
      rfl
theorem encP_col {k m : Nat} {d : List UInt8} (hk : 1 ≤ k) (hd : d.length = k) : encP k m (colL d) = colL ((List.range (k + m)).map (cw k (cf d))) := by
  rw [encP, encI_col hk hd k (Nat.le_refl _), colL, List.map_map]
  refine List.map_congr_left fun i _ => ?_
  show _ = [cw k (cf d) i]
  rw [cw]
  split <;> rfl
theorem colL_flat (l : List UInt8) : (colL l).flatten = l := by
  induction l with
  | nil => rfl
  | cons a l ih => show [a] ++ (colL l).flatten = _; rw [ih]; rfl
theorem cf_map {n i : Nat} (f : Nat → UInt8) (h : i < n) : cf ((List.range n).map f) i = f i := by
  rw [cf_lt (by simpa using h)]; simp
theorem fndI_nodup (k : Nat) (hs : List Bool) : ∀ i, (fndI k hs i).Nodup
  | 0 => List.nodup_nil
  | i + 1 => by
    rw [fndI]
    split
    · rw [List.nodup_append]
      refine ⟨fndI_nodup k hs i, by simp, fun a ha b hb e => ?_⟩
      have := (fndI_mem ha).1
      rw [List.mem_singleton.1 hb] at e
      omega
    · exact fndI_nodup k hs i
theorem fndI_cnt (k : Nat) (ms : List Bool) : ∀ i, i ≤ ms.length → (fndI k (ms.map (!·)) i).length = min k (i - cntI ms i)
  | 0, _ => by simp [fndI]
  | i + 1, h => by
    have ih := fndI_cnt k ms i (by omega)
    have hc := cntI_le ms i
    have hg : (ms.map (!·)).getD i false = !ms[i] := by
      rw [List.getD_eq_getElem?_getD, List.getElem?_eq_getElem (by simp; omega)]; simp
    rw [fndI, hg, cntI_succ (by omega)]
    cases q : ms[i] with
    | true => simp [ih]
    | false =>
      simp only [Bool.not_false, true_and]
      split
      · rw [List.length_append, ih]
        simp
        omega
      · rw [ih]
        simp
        omega
theorem knI_cnt (ms : List Bool) : ∀ i, i ≤ ms.length → (knI ms i).length = cntI ms i
  | 0, _ => by simp [knI, cntI]
  | i + 1, h => by
    have ih := knI_cnt ms i (by omega)
    have hg : ms.getD i false = ms[i] := by rw [List.getD_eq_getElem?_getD, List.getElem?_eq_getElem (by omega)]; rfl
    rw [knI_succ, cntI_succ (by omega), hg]
    split
    · rw [List.length_append, ih]; rfl
    · exact ih
theorem decI_one (V : Nat → Nat → UInt8) (ls : List Nat) (w : List UInt8) (j : Nat) (hb : ∀ a ∈ ls, a < w.length) : ∀ i, i ≤ ls.length → decI V ls (colL w) j 1 i = [xsum i fun q => gmul (V j q) (cf w (ls.getD q 0))]
  | 0, _ => rfl
  | i + 1, h => by
    have hi : ls.getD i 0 < w.length := by
      rw [List.getD_eq_getElem?_getD, List.getElem?_eq_getElem (by omega)]
      exact hb _ (List.getElem_mem _)
    have e : (colL w).getD (ls.getD i 0) [] = [cf w (ls.getD i 0)] := by
      rw [List.getD_eq_getElem?_getD, List.getElem?_eq_getElem (by simpa [colL] using hi)]
      simp only [colL, List.getElem_map, Option.getD_some]
      rw [cf_lt hi]
    rw [decI, decI_one V ls w j hb i (by omega), e]
    rfl
theorem l10 (k m : Nat) (d : List UInt8) (ms : List Bool) (hk : 1 ≤ k) (hkm : k + m ≤ 60) (hd : d.length = k) (hms : ms.length = k + m) : L10 k m d ms := by
  have hN : k + m ≤ 256 := by omega
  have hw : (encP k m (colL d)).flatten = (List.range (k + m)).map (cw k (cf d)) := by rw [encP_col hk hd, colL_flat]
  have hwl : ((List.range (k + m)).map (cw k (cf d))).length = k + m := by simp
  have hsyn : ∀ l, l < m → syn k m (cf ((List.range (k + m)).map (cw k (cf d)))) l = 0 := fun l hl => by
    rw [← syn_cw (k := k) (cf d) hN hl]
    unfold syn
    exact xsum_congr fun i hi => by rw [cf_map _ hi]
  have hkc : (knI ms (k + m)).length = cntI ms ms.length := by rw [hms]; exact knI_cnt ms (k + m) (by omega)
  have hfc : (fndI k (ms.map (!·)) (k + m)).length = min k (k + m - cntI ms ms.length) := by rw [hms]; exact fndI_cnt k ms (k + m) (by omega)
  have hcl := cntI_le ms ms.length
  refine ⟨by rw [hw, hwl], fun hc => ?_, fun hc => ?_⟩
  · refine ⟨?_, by omega⟩
    unfold wordP
    rw [if_pos (by omega)]
  · rw [hw]
    refine ⟨word_back hN hwl (by omega) hsyn, word_back hN hwl ?_ hsyn, by omega, ?_⟩
    · have : knI (List.replicate (k + m) false) (k + m) = [] := by
        unfold knI
        rw [List.map_eq_nil_iff, List.filter_eq_nil_iff]
        intro a ha
        rw [List.mem_range] at ha
        simp [ha]
      rw [this]
      exact Nat.zero_le _
    · have hl : (fndI k (ms.map (!·)) (k + m)).length = k := by omega
      have hb : ∀ a ∈ fndI k (ms.map (!·)) (k + m), a < k + m := fun a ha => (fndI_mem ha).1
      have hn := fndI_nodup k (ms.map (!·)) (k + m)
      obtain ⟨W, e, hW⟩ := invI_back (pick_inj hN hl hn hb)
      refine ⟨W, e, ?_⟩
      have hdec : decL W (fndI k (ms.map (!·)) (k + m)) (colL ((List.range (k + m)).map (cw k (cf d)))) k 1 = colL d := by
        apply List.ext_getElem (by simp [decL, colL, hd])
        intro j h1 h2
        have hj : j < k := by simpa [decL] using h1
        simp only [decL, colL, List.getElem_map, List.getElem_range]
        have := decI_one (fun r c => W r (k + c)) (fndI k (ms.map (!·)) (k + m)) ((List.range (k + m)).map (cw k (cf d))) j (fun a ha => by rw [hwl]; exact hb a ha) k (by omega)
        unfold colL at this
        rw [this]
        congr 1
        have hx := hW (cf d) j hj
        rw [cf_lt (by omega)] at hx
        rw [← hx]
        refine xsum_congr fun q hq => ?_
        congr 1
        have hq' : q < (fndI k (ms.map (!·)) (k + m)).length := by omega
        have hg : (fndI k (ms.map (!·)) (k + m)).getD q 0 = (fndI k (ms.map (!·)) (k + m))[q] := by rw [List.getD_eq_getElem?_getD, List.getElem?_eq_getElem hq']; rfl
        rw [hg, cf_map _ (hb _ (List.getElem_mem _)), ← gen_cw]
        refine xsum_congr fun j _ => ?_
        rw [pickM, if_pos hq, hg]
      rw [hdec, hw]
end Go.Eng
