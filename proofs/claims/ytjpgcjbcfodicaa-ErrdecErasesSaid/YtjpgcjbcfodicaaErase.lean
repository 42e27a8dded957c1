/- Steps of the proof: lemmas for every input, without conditions but those that each states. -/
import Derived.Test.YtjpgcjbcfodicaaHelpers
import Derived.Test.YtjpgcjbcfodicaaInv
set_option linter.unusedSimpArgs false
set_option linter.unusedVariables false
namespace Go.Eng
/-- The places of the first k that are there. -/
def fndI (k : Nat) (hs : List Bool) : Nat → List Nat
  | 0 => []
  | i + 1 => if hs.getD i false = true ∧ (fndI k hs i).length < k then fndI k hs i ++ [i] else fndI k hs i
theorem fndI_le (k : Nat) (hs : List Bool) (i : Nat) : (fndI k hs i).length ≤ i := by
  induction i with
  | zero => exact Nat.le_refl _
  | succ i ih => rw [fndI]; split <;> simp_all <;> omega
theorem fndI_lek (k : Nat) (hs : List Bool) (i : Nat) : (fndI k hs i).length ≤ k := by
  induction i with
  | zero => exact Nat.zero_le _
  | succ i ih => rw [fndI]; split <;> simp_all <;> omega
abbrev nI (l : List Nat) : List Int := l.map fun n : Nat => (n : Int)
theorem erase_found_spec {S T : Nat → Prop} {h : Heap} {hv sv : Value} {hs : List Bool} {ll : List (List UInt8)} (k L : Nat) (B : Bools S h hv hs) (D : BytesL T h sv ll) (hl : hs.length = ll.length) (hL : ∀ l ∈ ll, l.length = L) (hm : hs.length ≤ 100000) :
    Spec PP f_erase_found #[vI k, hv, sv] h (fun v h' => Ext h h' ∧ (((fndI k hs hs.length).length < k ∧ v = .tuple #[.slice none 0 0, vI 70]) ∨ ((fndI k hs hs.length).length = k ∧ ∃ u, v = .tuple #[u, vI 0] ∧ OI t_int h' h.size u (nI (fndI k hs hs.length))))) := by
  have hl0 := B.2.1
  obtain ⟨us, Q, rows⟩ := D
  refine Spec.body (C := c_erase_found) [(0, vI k), (1, hv), (2, sv)] h_erase_found rfl rfl rfl ⟨rfl, rfl, rfl, trivial⟩ rfl ?_
  refine WC.seq (WC.region ?_)
  iterate 2 refine WR.sL rfl rfl ?_
  refine WR.nil ?_
  refine WC.scope ?_
  refine WC.seq (WC.region ?_)
  refine WR.sL rfl rfl (WR.nil ?_)
  refine WC.seq (WC.region ?_)
  refine WR.sL rfl rfl (WR.nil ?_)
  refine WC.seq (WC.label ?_)
  refine WC.seq (WC.seq (WC.region ?_))
  refine WR.sL rfl rfl ?_
  refine WR.vL (RunsV.lenSl B rfl) rfl ?_
  refine WR.sL rfl rfl (WR.nil ?_)
  refine WC.block ?_
  refine WC.loop (σ := Nat × Value × Int) (fun q => [(0, vI k), (2, sv), (8, q.2.1), (9, vI q.2.2), (12, hv), (13, vI hs.length), (14, vI q.1)])
    (fun q h' => q.1 ≤ hs.length ∧ Ext h h' ∧ (q.2.2 = -1 ∨ q.2.2 = L) ∧ OI t_int h' h.size q.2.1 (nI (fndI k hs q.1))) (fun q => hs.length - q.1) (0, .slice none 0 0, -1) (fun _ => rfl)
    ⟨rfl, rfl, rfl, rfl, rfl, rfl, rfl, trivial⟩ ⟨by simp, Ext.refl _, .inl rfl, OI.nil _ _ _⟩ ?_
  rintro ⟨i, o, s⟩ h1 ⟨hi, X, hs1, O⟩
  dsimp only at hi hs1 O
  refine WC.seq (WC.region ?_)
  refine WR.s rfl rfl (WR.nil ?_)
  refine WC.seq ?_
  refine WC.itep rfl (fun e => ?_) (fun e => ?_)
  · have hi' : i < hs.length := by omega
    have hlo : (nI (fndI k hs i)).length = (fndI k hs i).length := by simp
    have hle := fndI_le k hs i
    have B1 := B.ext X
    have Q1 := Q.ext X
    obtain ⟨x, hx, Dx⟩ := rows i (by omega)
    have D1 := Dx.ext X
    have hlx : (ll[i]'(by omega)).length = L := hL _ (List.getElem_mem _)
    have hg : hs.getD i false = hs[i] := by rw [List.getD_eq_getElem?_getD, List.getElem?_eq_getElem hi']; rfl
    refine WC.skip ?_
    refine WC.cut (σ := Value × Int) (fun q => [(0, vI k), (2, sv), (8, q.1), (9, vI q.2), (12, hv), (13, vI hs.length), (14, vI i)])
      (fun q h' => Ext h h' ∧ (q.2 = -1 ∨ q.2 = L) ∧ OI t_int h' h.size q.1 (nI (fndI k hs (i + 1)))) (fun _ => rfl) ?_ ?_
    · refine WC.block ?_
      refine WC.seq (WC.region ?_)
      refine WR.s rfl rfl ?_
      refine WR.v (RunsV.ix (B1.has (by omega)) i hi' rfl rfl rfl) rfl ?_
      refine WR.v (RunsV.ldE B1 (by omega) rfl rfl (tcells_get hi')) rfl ?_
      iterate 2 refine WR.sL rfl rfl ?_
      refine WR.nil ?_
      refine WC.cut (σ := Unit) (fun q => [(0, vI k), (2, sv), (8, o), (9, vI L), (10, vI i), (12, hv), (13, vI hs.length), (14, vI i)])
        (fun _ h' => h' = h1 ∧ hs[i] = true) (fun _ => rfl) ?_ ?_
      · refine WC.block ?_
        refine WC.seq (WC.region ?_)
        iterate 2 refine WR.s rfl rfl ?_
        refine WR.s rfl rfl (WR.nil ?_)
        refine WC.ite rfl (fun e2 => ?_) (fun e2 => ?_)
        · refine WC.exit (exit_miss (by decide) (exit_hit ?_))
          refine ⟨(o, s), ⟨rfl, rfl, rfl, rfl, rfl, rfl, rfl, trivial⟩, X, hs1, ?_⟩
          dsimp only
          rw [fndI, if_neg (fun q => by rw [hg] at q; rw [q.1] at e2; cases e2)]
          exact O
        · have et : hs[i] = true := by cases c : hs[i] <;> simp_all
          refine WC.seq (WC.region ?_)
          iterate 2 refine WR.s rfl rfl ?_
          refine WR.s rfl rfl (WR.nil ?_)
          refine WC.itep rfl (fun e3 => ?_) (fun e3 => ?_)
          · refine WC.region ?_
            iterate 2 refine WR.s rfl rfl ?_
            refine WR.v (RunsV.ix (Q1.has (by omega)) i (by omega) rfl rfl rfl) rfl ?_
            refine WR.v (RunsV.ldE Q1 (by omega) rfl rfl hx) rfl ?_
            refine WR.v (RunsV.lenSl D1 rfl) rfl ?_
            refine WR.sL rfl rfl (WR.nil ?_)
            exact ⟨(), ⟨rfl, rfl, rfl, by rw [hlx]; rfl, rfl, rfl, rfl, rfl, trivial⟩, rfl, et⟩
          · have hsL : s = L := by dsimp only at e3; omega
            subst hsL
            refine WC.seq (WC.region ?_)
            iterate 3 refine WR.s rfl rfl ?_
            refine WR.v (RunsV.ix (Q1.has (by omega)) i (by omega) rfl rfl rfl) rfl ?_
            refine WR.v (RunsV.ldE Q1 (by omega) rfl rfl hx) rfl ?_
            refine WR.v (RunsV.lenSl D1 rfl) rfl ?_
            iterate 2 refine WR.s rfl rfl ?_
            refine WR.nil ?_
            refine WC.ff rfl (by simp [hlx]) ?_
            refine WC.skip ?_
            exact ⟨(), ⟨rfl, rfl, rfl, rfl, rfl, rfl, rfl, rfl, trivial⟩, rfl, et⟩
      rintro _ h1 ⟨rfl, et⟩
      refine WC.seq (WC.region ?_)
      refine WR.s rfl rfl ?_
      refine WR.v (RunsV.lenSl O.ints rfl) rfl ?_
      iterate 2 refine WR.s rfl rfl ?_
      refine WR.nil ?_
      refine WC.itep rfl (fun e2 => ?_) (fun e2 => ?_)
      · rw [hlo] at e2
        refine WC.region ?_
        iterate 2 refine WR.s rfl rfl ?_
        refine WR.ap1T O.1 (by have := X.size; omega) rfl rfl (fun _ => rfl) rfl rfl rfl (by omega) (by omega) ?_
        rintro x v' h3 O3 K3 -
        refine WR.sL rfl rfl (WR.nil ?_)
        refine ⟨(v', L), ⟨rfl, rfl, rfl, rfl, rfl, rfl, rfl, trivial⟩, Keeps.own X O.1 (Nat.le_refl _) K3, .inr rfl, ?_⟩
        dsimp only
        rw [fndI, if_pos ⟨hg.trans et, by omega⟩, nI, List.map_append]
        exact OI.snoc O3 (by rw [hlo]; omega)
      · rw [hlo] at e2
        refine WC.skip ?_
        refine ⟨(o, L), ⟨rfl, rfl, rfl, rfl, rfl, rfl, rfl, trivial⟩, X, .inr rfl, ?_⟩
        dsimp only
        rw [fndI, if_neg (fun q => by have := q.2; omega)]
        exact O
    rintro ⟨o', s'⟩ h2 ⟨X2, hs2, O2⟩
    refine WC.region ?_
    refine WR.v (RunsV.add rfl rfl (by omega)) rfl ?_
    refine WR.sL rfl rfl (WR.nil ?_)
    exact ⟨(i + 1, o', s'), ⟨rfl, rfl, rfl, rfl, rfl, rfl, rfl, trivial⟩, ⟨hi', X2, hs2, O2⟩, by dsimp only; omega⟩
  · refine WC.exit (exit_hit ?_)
    obtain rfl : i = hs.length := by omega
    have hlo : (nI (fndI k hs hs.length)).length = (fndI k hs hs.length).length := by simp
    have hle := fndI_le k hs hs.length
    have hlk := fndI_lek k hs hs.length
    refine WC.seq (WC.seq (WC.region ?_))
    refine WR.s rfl rfl ?_
    refine WR.v (RunsV.lenSl O.ints rfl) rfl ?_
    iterate 2 refine WR.s rfl rfl ?_
    refine WR.nil ?_
    refine WC.itep rfl (fun e2 => ?_) (fun e2 => ?_)
    · rw [hlo] at e2
      refine WC.seq (WC.region ?_)
      iterate 2 refine WR.sL rfl rfl ?_
      refine WR.nil ?_
      exact WC.ret ⟨_, rfl, X, .inl ⟨by omega, rfl⟩⟩
    · rw [hlo] at e2
      refine WC.skip ?_
      refine WC.seq (WC.region ?_)
      refine WR.s rfl rfl ?_
      iterate 2 refine WR.sL rfl rfl ?_
      refine WR.nil ?_
      exact WC.ret ⟨_, rfl, X, .inr ⟨by omega, _, rfl, O⟩⟩
end Go.Eng
namespace Go.Eng
/-- To a row's first i places is added c times another one. -/
def xrow (c : UInt8) (s : List UInt8) (i : Nat) (o : List UInt8) : List UInt8 := o.mapIdx fun q x => if q < i then x ^^^ gmul c (s.getD q 0) else x
theorem xrow_len (c : UInt8) (s : List UInt8) (i : Nat) (o : List UInt8) : (xrow c s i o).length = o.length := by simp [xrow]
theorem xrow_zero (c : UInt8) (s : List UInt8) (o : List UInt8) : xrow c s 0 o = o := by
  apply List.ext_getElem (xrow_len ..)
  intro q h1 h2
  simp [xrow]
theorem xrow_get (c : UInt8) (s : List UInt8) (i : Nat) (o : List UInt8) (hi : i < o.length) : (xrow c s i o)[i]? = some o[i] := by
  rw [List.getElem?_eq_getElem (by rw [xrow_len]; exact hi)]
  simp [xrow]
theorem xrow_succ (c : UInt8) (s : List UInt8) (i : Nat) (o : List UInt8) (hi : i < o.length) (hs : i < s.length) : (xrow c s i o).set i (o[i] ^^^ gmul c s[i]) = xrow c s (i + 1) o := by
  apply List.ext_getElem (by simp [xrow])
  intro q h1 h2
  simp only [xrow, List.getElem_set, List.getElem_mapIdx]
  by_cases e : i = q
  · subst e
    rw [if_pos rfl, if_pos (by omega), List.getD_eq_getElem?_getD, List.getElem?_eq_getElem hs]; rfl
  · rw [if_neg e]
    by_cases e2 : q < i
    · rw [if_pos e2, if_pos (by omega)]
    · rw [if_neg e2, if_neg (by omega)]
/-- One data shard made out of those that are there. -/
def decI (V : Nat → Nat → UInt8) (ls : List Nat) (ll : List (List UInt8)) (j L : Nat) : Nat → List UInt8
  | 0 => List.replicate L 0
  | i + 1 => xrow (V j i) (ll.getD (ls.getD i 0) []) L (decI V ls ll j L i)
theorem decI_len (V : Nat → Nat → UInt8) (ls : List Nat) (ll : List (List UInt8)) (j L : Nat) : ∀ i, (decI V ls ll j L i).length = L
  | 0 => by simp [decI]
  | i + 1 => by rw [decI, xrow_len, decI_len V ls ll j L i]
theorem erase_Decode_1_spec {S T T2 T3 : Nat → Prop} {h : Heap} {bf b9 b14 b17 b6 b5 : Nat} {sv lv u : Value} {V : Nat → Nat → UInt8} {k L j : Nat} {ls : List Nat} {ll : List (List UInt8)} (F : Fld S h bf) (hS : ∀ i, S i → i < h.size)
    (B9 : Box h b9 t_sl_sl_uint8 sv) (B14 : Box h b14 t_sl_int lv) (B17 : Blk h b17 (mat3 k k u) t_api_Matrix) (B6 : Box h b6 t_int (vI k)) (B5 : Box h b5 t_ptr_gf_Field (ptr bf))
    (D : BytesL T h sv ll) (I : Ints T2 h lv (nI ls)) (U : Bytes T3 h u (matL V k k)) (hj : j < k) (hk : k ≤ 256) (hls : ls.length = k) (hin : ∀ l ∈ ls, l < ll.length) (hL : ∀ l ∈ ll, l.length = L) (hL0 : L ≤ 1000000) :
    Spec PP f_erase_Decode_1 #[vI j, ptr b9, ptr b14, ptr b17, ptr b6, ptr b5] h (fun v h' => Ext h h' ∧ OB t_uint8 h' h.size v (decI V ls ll j L k)) := by
  have hml := matL_len V k k
  obtain ⟨us, Q, rows⟩ := D
  have hI : Sl T2 h 1 lv k (icells (nI ls)) := by have := I; unfold Ints at this; rwa [List.length_map, hls] at this
  have hat : ∀ i, i < k → ∃ p x, (icells (nI ls))[i]? = some (vI ((p : Nat) : Int)) ∧ ∃ hp : p < ll.length, us[p]? = some x ∧ Bytes T h x ll[p] ∧ ll[p].length = L ∧ ll.getD (ls.getD i 0) [] = ll[p] := fun i hi => by
    have hi2 : i < ls.length := by omega
    have hlt : ls[i] < ll.length := hin _ (List.getElem_mem _)
    obtain ⟨x, hx, Dx⟩ := rows _ hlt
    refine ⟨ls[i], x, ?_, hlt, hx, Dx, hL _ (List.getElem_mem _), ?_⟩
    · rw [icells_get (by simpa using hi2)]; simp
    · rw [List.getD_eq_getElem?_getD, List.getD_eq_getElem?_getD, List.getElem?_eq_getElem hi2]
      simp only [Option.getD_some]
      rw [List.getElem?_eq_getElem hlt]; rfl
  have hfs : ∃ A cap, u = .slice A (k * k) cap ∧ k * k ≤ cap := by have := Bytes.formc U; rwa [hml] at this
  have hkk : k * k ≤ 256 * 256 := Nat.mul_le_mul hk hk
  refine Spec.body (C := c_erase_Decode_1) [(0, vI j), (1, ptr b9), (2, ptr b14), (3, ptr b17), (4, ptr b6), (5, ptr b5)] h_erase_Decode_1 rfl rfl rfl ⟨rfl, rfl, rfl, rfl, rfl, rfl, trivial⟩ rfl ?_
  refine WC.seq (WC.region ?_)
  refine WR.sL rfl rfl (WR.nil ?_)
  refine WC.seq ?_
  have h0k : 0 < k := by omega
  obtain ⟨p0, x0, hc0, hl0, hx0, D0, hx0L, -⟩ := hat 0 h0k
  refine WC.draw [(false,0),(false,1),(false,2),(false,3),(false,4),(false,5),(false,6),(true,7),(false,8)] (fun h' => Ext h h') (by decide +kernel) (fun _ _ _ _ _ _ q => q) (Ext.refl _) ?_
  refine WQ.q rfl (fun h' s => RunsV.ldB (B9.ext s) rfl) rfl ?_
  refine WQ.q rfl (fun h' s => RunsV.ldB (B14.ext s) rfl) rfl ?_
  refine WQ.q rfl (fun h' s => RunsV.ix (hI.has (by omega)) 0 (by omega) rfl rfl rfl) rfl ?_
  refine WQ.q rfl (fun h' s => RunsV.ldE (hI.ext s) (by omega) rfl rfl hc0) rfl ?_
  refine WQ.q rfl (fun h' s => RunsV.ix (Q.has (by omega)) p0 hl0 rfl rfl rfl) rfl ?_
  refine WQ.q rfl (fun h' s => RunsV.ldE (Q.ext s) (by omega) rfl rfl hx0) rfl ?_
  refine WQ.q rfl (fun h' s => RunsV.lenSl (D0.ext s) rfl) rfl ?_
  rw [hx0L]
  refine WQ.ef true rfl (Runs.mk rfl L rfl rfl (by omega) (by omega)) rfl (fun _ s v h' q => s.trans q.2.2) (by omega) ?_
  rintro o h1 ⟨O1, ho, X1⟩
  refine WQ.sL rfl rfl rfl ?_
  refine WQ.nil ?_
  have OO : OB t_uint8 h1 h.size o (decI V ls ll j L 0) := ⟨by rw [decI_len, decI, ← bcells_rep]; exact O1, by rw [decI_len]; omega⟩
  refine WC.seq (WC.seq (WC.region ?_))
  refine WR.vL (RunsV.ldB (B14.ext X1) rfl) rfl ?_
  refine WR.vL (RunsV.lenSl (hI.ext X1) rfl) rfl ?_
  refine WR.sL rfl rfl (WR.nil ?_)
  refine WC.block ?_
  refine WC.loop (σ := Nat) (fun i => [(0, vI j), (1, ptr b9), (3, ptr b17), (4, ptr b6), (5, ptr b5), (8, o), (22, lv), (23, vI k), (24, vI i)]) (fun i h' => i ≤ k ∧ Ext h h' ∧ OB t_uint8 h' h.size o (decI V ls ll j L i)) (fun i => k - i) 0 (fun _ => rfl)
    ⟨rfl, rfl, rfl, rfl, rfl, rfl, rfl, rfl, rfl, trivial⟩ ⟨by omega, X1, OO⟩ ?_
  clear OO X1 O1
  rintro i h2 ⟨hi, X, O⟩
  refine WC.seq (WC.region ?_)
  refine WR.s rfl rfl (WR.nil ?_)
  refine WC.seq ?_
  refine WC.itep rfl (fun e => ?_) (fun e => ?_)
  · have hi' : i < k := by omega
    obtain ⟨p, x, hci, hlt, hx, Dx, hxL, hg⟩ := hat i hi'
    have Q2 := Q.ext X
    have hI2 := hI.ext X
    have hpl : j * k + i < k * k := place_lt hj hi'
    have hD : (decI V ls ll j L i).length = L := decI_len ..
    refine WC.skip ?_
    refine WC.seq (WC.block ?_)
    refine WC.seq (WC.region ?_)
    refine WR.s rfl rfl ?_
    refine WR.v (RunsV.ix (hI2.has (by omega)) i hi' rfl rfl rfl) rfl ?_
    refine WR.v (RunsV.ldE hI2 (by omega) rfl rfl hci) rfl ?_
    iterate 2 refine WR.sL rfl rfl ?_
    refine WR.nil ?_
    refine WC.seq (WC.region ?_)
    refine WR.v (RunsV.fa0 rfl) rfl ?_
    refine WR.v (RunsV.ldF (v := u) (B17.ext X) rfl rfl) rfl ?_
    refine WR.s rfl rfl ?_
    refine WR.v (RunsV.ldB (B6.ext X) rfl) rfl ?_
    refine WR.v (RunsV.to (v' := vI ((j * k : Nat))) (RunsV.mul rfl rfl (by rw [← Int.natCast_mul]; omega)) (by simp)) rfl ?_
    refine WR.s rfl rfl ?_
    refine WR.v (RunsV.to (v' := vI ((j * k + i : Nat))) (RunsV.add rfl rfl (by omega)) (by simp)) rfl ?_
    refine WR.v (RunsV.ix (Sl.has (U.ext X) (by rw [hml]; omega)) (j * k + i) (by rw [hml]; exact hpl) rfl rfl rfl) rfl ?_
    refine WR.v (RunsV.ldE (U.ext X) (by rw [hml]; omega) rfl rfl (y := vB (V j i)) (by rw [bcells, List.getElem?_map, matL_get _ hj hi']; rfl)) rfl ?_
    refine WR.sL rfl rfl (WR.nil ?_)
    refine WC.seq (WC.region ?_)
    refine WR.v (RunsV.ldB (B9.ext X) rfl) rfl ?_
    refine WR.s rfl rfl ?_
    refine WR.v (RunsV.ix (Q2.has (by omega)) p hlt rfl rfl rfl) rfl ?_
    refine WR.vL (RunsV.ldE Q2 (by omega) rfl rfl hx) rfl ?_
    refine WR.vL (RunsV.lenSl (Dx.ext X) rfl) rfl ?_
    refine WR.sL rfl rfl (WR.nil ?_)
    rw [hxL]
    refine WC.block ?_
    refine WC.loop (σ := Nat) (fun n => [(0, vI j), (1, ptr b9), (3, ptr b17), (4, ptr b6), (5, ptr b5), (8, o), (11, vB (V j i)), (22, lv), (23, vI k), (24, vI i), (41, x), (42, vI L), (43, vI n)])
      (fun n h' => n ≤ L ∧ Ext h h' ∧ OB t_uint8 h' h.size o (xrow (V j i) ll[p] n (decI V ls ll j L i))) (fun n => L - n) 0 (fun _ => rfl)
      ⟨rfl, rfl, rfl, rfl, rfl, rfl, rfl, rfl, rfl, rfl, rfl, rfl, rfl, trivial⟩ ⟨by omega, X, by rw [xrow_zero]; exact O⟩ ?_
    clear Q2 hI2 O X
    rintro n h3 ⟨hn, X, O⟩
    refine WC.seq (WC.region ?_)
    refine WR.s rfl rfl (WR.nil ?_)
    refine WC.seq ?_
    refine WC.itep rfl (fun e => ?_) (fun e => ?_)
    · have hn' : n < L := by omega
      have D2 := Dx.ext X
      have hlo : (xrow (V j i) ll[p] n (decI V ls ll j L i)).length = L := by rw [xrow_len, hD]
      have c0 : (bcells (xrow (V j i) ll[p] n (decI V ls ll j L i)))[n]? = some (vB ((decI V ls ll j L i)[n]'(by omega))) := by
        rw [bcells, List.getElem?_map, xrow_get _ _ _ _ (by omega)]; rfl
      refine WC.skip ?_
      refine WC.seq (WC.block ?_)
      refine WC.seq (WC.region ?_)
      refine WR.s rfl rfl ?_
      refine WR.v (RunsV.ix (D2.has (by omega)) n (by omega) rfl rfl rfl) rfl ?_
      refine WR.v (RunsV.ldE D2 (by omega) rfl rfl (bcells_get (by omega))) rfl ?_
      iterate 2 refine WR.sL rfl rfl ?_
      refine WR.nil ?_
      have hH : Has o L := by have := (O.bytes).has (by omega); rwa [hlo] at this
      have F3 := F.ext X
      refine WC.drawF 10 [(0,0),(0,1),(0,2),(1,3),(1,4),(0,5),(0,6),(2,7),(0,8),(0,9),(3,10)] (same h3) (by decide +kernel) (fun _ _ _ _ _ _ q => q) rfl ?_
      iterate 2 refine WF.s rfl rfl rfl ?_
      refine WF.v rfl (fun _ => RunsV.ix hH n hn' rfl rfl rfl) rfl ?_
      refine WF.rd rfl (RunsV.ldO O.1 (by omega) rfl rfl c0) rfl ?_
      refine WF.rd rfl (RunsV.ldB (B5.ext X) rfl) rfl ?_
      iterate 2 refine WF.s rfl rfl rfl ?_
      refine WF.call true rfl (gf_Field_Mul_spec F3 (V j i) (ll[p][n]'(by omega))) rfl rfl rfl rfl (fun _ _ v h' q => q.2) ?_
      rintro _ h3 ⟨rfl, rfl⟩
      refine WF.v rfl (fun _ => RunsV.xorB rfl rfl) rfl ?_
      refine WF.v rfl (fun _ => RunsV.ix hH n hn' rfl rfl rfl) rfl ?_
      refine WF.u rfl (RunsU.stO O.1 (by omega) rfl rfl rfl) ?_
      rintro h4 ⟨O4, g, hg, hg2, hgv, U4⟩
      refine WF.nil ?_
      refine WC.region ?_
      refine WR.v (RunsV.add rfl rfl (by omega)) rfl ?_
      refine WR.sL rfl rfl (WR.nil ?_)
      have O4' := OB.set O4 O.2
      rw [xrow_succ _ _ _ _ (by omega) (by omega)] at O4'
      exact ⟨n + 1, ⟨rfl, rfl, rfl, rfl, rfl, rfl, rfl, rfl, rfl, rfl, rfl, rfl, rfl, trivial⟩, ⟨hn', X.upd U4 (.inl hg), O4'⟩, by dsimp only; omega⟩
    · refine WC.exit (exit_hit ?_)
      obtain rfl : n = L := by omega
      refine WC.region ?_
      refine WR.v (RunsV.add rfl rfl (by omega)) rfl ?_
      refine WR.sL rfl rfl (WR.nil ?_)
      refine ⟨i + 1, ⟨rfl, rfl, rfl, rfl, rfl, rfl, rfl, rfl, rfl, trivial⟩, ⟨hi', X, ?_⟩, by dsimp only; omega⟩
      rw [decI, hg]
      exact O
  · refine WC.exit (exit_hit ?_)
    obtain rfl : i = k := by omega
    refine WC.seq (WC.region ?_)
    refine WR.s rfl rfl ?_
    refine WR.sL rfl rfl (WR.nil ?_)
    exact WC.ret ⟨_, rfl, X, O⟩
end Go.Eng
namespace Go.Eng
theorem fndI_mem {k : Nat} {hs : List Bool} {i r : Nat} (h : r ∈ fndI k hs i) : r < i ∧ hs.getD r false = true := by
  induction i with
  | zero => cases h
  | succ i ih =>
    rw [fndI] at h
    split at h
    · rename_i q
      rcases List.mem_append.1 h with e | e
      · have := ih e; exact ⟨by omega, this.2⟩
      · have : r = i := by simpa using e
        subst this
        exact ⟨by omega, q.1⟩
    · have := ih h; exact ⟨by omega, this.2⟩
theorem Rows.rebase {e : Bool} {h : Heap} {base base' : Nat} {v : Value} {vs : List Value} {ll : List (List UInt8)} (r : Rows e h base v vs ll) (q : base' ≤ base) : Rows e h base' v vs ll :=
  ⟨r.own.rebase q, r.len, fun i hi => by
    obtain ⟨u, h1, h2⟩ := r.row i hi
    exact ⟨u, h1, h2.imp id fun o => o.rebase q⟩, r.apart⟩
/-- The data shards made out of those that are there. -/
def decL (W : Nat → Nat → UInt8) (ls : List Nat) (ll : List (List UInt8)) (k L : Nat) : List (List UInt8) := (List.range k).map fun j => decI (fun r c => W r (k + c)) ls ll j L k
theorem erase_Decode_spec {S T T2 : Nat → Prop} {h : Heap} {bf : Nat} {hv sv : Value} {hs : List Bool} {ll : List (List UInt8)} (F : Fld S h bf) (hS : ∀ i, S i → i < h.size) (k m L : Nat) (hk : 1 ≤ k) (hkm : k + m ≤ 256) (B : Bools T h hv hs) (D : BytesL T2 h sv ll)
    (hhs : hs.length = k + m) (hll : ll.length = k + m) (hL : ∀ l ∈ ll, l.length = L) (hL0 : L ≤ 1000000)
    (hW : (fndI k hs (k + m)).length = k → ∃ W, invI (pickM (genM k) (fndI k hs (k + m)) k) k k = some W) :
    Spec PP f_erase_Decode #[ptr bf, vI k, vI m, hv, sv] h (fun v h' => Ext h h' ∧ (((fndI k hs (k + m)).length < k ∧ v = .tuple #[.slice none 0 0, vI 70]) ∨
      ((fndI k hs (k + m)).length = k ∧ ∃ W, invI (pickM (genM k) (fndI k hs (k + m)) k) k k = some W ∧ ∃ u vs, v = .tuple #[u, vI 0] ∧ Rows false h' h.size u vs (encP k m (decL W (fndI k hs (k + m)) ll k L))))) := by
  have hsv : oneCell sv = true := by obtain ⟨us, ⟨_, _, A, cap, rfl, _⟩, _⟩ := D; rfl
  refine Spec.body (C := c_erase_Decode) [(0, ptr bf), (1, vI k), (2, vI m), (3, hv), (4, sv)] h_erase_Decode rfl rfl rfl ⟨rfl, rfl, rfl, rfl, rfl, trivial⟩ rfl ?_
  refine WC.seq (WC.region ?_)
  refine WR.stepL (Runs.bx rfl rfl) rfl ?_
  rintro _ h1 ⟨b5, rfl, hb5, B5, X1⟩
  refine WR.stepL (Runs.bx rfl rfl) rfl ?_
  rintro _ h2 ⟨b6, rfl, hb6, B6, X2⟩
  refine WR.stepL (Runs.bx rfl hsv) rfl ?_
  rintro _ h3 ⟨b9, rfl, hb9, B9, X3⟩
  have X23 := X2.trans X3
  have X03 := X1.trans X23
  have C5 := B5.ext X23
  have C6 := B6.ext X3
  clear B5 B6 X1 X2 X3 X23 hb5 hb6 hb9
  iterate 2 refine WR.sL rfl rfl ?_
  refine WR.nil ?_
  refine WC.seq (WC.region ?_)
  refine WR.v (RunsV.ldB C5 rfl) rfl ?_
  refine WR.v (RunsV.ldB C6 rfl) rfl ?_
  refine WR.s rfl rfl ?_
  refine WR.callT (cauchy_Generator_spec (F.ext X03) k m hk hkm) rfl rfl rfl ?_
  rintro _ h4 ⟨X4, g, rfl, G⟩
  iterate 3 refine WR.s rfl rfl ?_
  refine WR.stepL (Runs.alA (z := zMat)) rfl ?_
  rintro _ h5 ⟨b12, rfl, hb12, B12, X5⟩
  refine WR.stepU (RunsU.stW (vs := mat3 ((k + m : Nat)) k g) B12 rfl rfl rfl rfl (mat3_one G.1.one)) ?_
  rintro h6 ⟨B126, U6⟩
  refine WR.sL rfl rfl (WR.nil ?_)
  have X46 : Ext h4 h6 := X5.upd U6 (.inl hb12)
  have X36 := X4.trans X46
  have X06 := X03.trans X36
  have D5 := C5.ext X36
  have D6 := C6.ext X36
  have D9 := B9.ext X36
  have G6 := G.ext X46
  clear C5 C6 B9 B12 X5 U6 X4 X46 X36 hb12 G
  refine WC.seq (WC.block ?_)
  refine WC.seq (WC.region ?_)
  iterate 2 refine WR.s rfl rfl ?_
  refine WR.s rfl rfl (WR.nil ?_)
  refine WC.ff rfl rfl ?_
  refine WC.seq (WC.region ?_)
  refine WR.s rfl rfl ?_
  refine WR.v (RunsV.lenSl (Sl.ext B X06) rfl) rfl ?_
  refine WR.v (RunsV.ldB D6 rfl) rfl ?_
  refine WR.s rfl rfl ?_
  refine WR.v (RunsV.to (v' := vI ((k + m : Nat))) (RunsV.add rfl rfl (by omega)) (by simp)) rfl ?_
  iterate 2 refine WR.s rfl rfl ?_
  refine WG.start rfl rfl ?_
  refine WG.v rfl (fun e => RunsV.ldB D9 rfl) rfl rfl ?_
  obtain ⟨us, Q, rows⟩ := D
  refine WG.v rfl (fun e => RunsV.lenSl (Q.ext X06) rfl) rfl rfl ?_
  refine WG.v rfl (fun e => RunsV.ldB D6 rfl) rfl rfl ?_
  refine WG.s rfl rfl rfl rfl ?_
  refine WG.v rfl (fun e => RunsV.to (v' := vI ((k + m : Nat))) (RunsV.add rfl rfl (by omega)) (by simp)) rfl rfl ?_
  refine WG.s rfl rfl rfl rfl ?_
  refine WG.or rfl rfl ?_
  refine WR.s rfl rfl (WR.nil ?_)
  refine WC.ff rfl (by simp [hhs, hll]) (WC.skip ?_)
  have D : BytesL T2 h sv ll := ⟨us, Q, rows⟩
  refine WC.seq (WC.region ?_)
  refine WR.v (RunsV.ldB D6 rfl) rfl ?_
  refine WR.s rfl rfl ?_
  refine WR.v (RunsV.ldB D9 rfl) rfl ?_
  refine WR.callT (erase_found_spec k L (Sl.ext B X06) (D.ext X06) (by omega) hL (by omega)) rfl rfl rfl ?_
  rw [hhs]
  rintro _ h7 ⟨X7, ⟨hlt, rfl⟩ | ⟨heq, l, rfl, I⟩⟩
  · iterate 3 refine WR.s rfl rfl ?_
    refine WR.stepL (Runs.al rfl) rfl ?_
    rintro _ h8 ⟨b14, rfl, hb14, B14, X8⟩
    refine WR.stepU (RunsU.stB B14 rfl rfl rfl) ?_
    rintro h9 ⟨B149, U9⟩
    refine WR.sL rfl rfl (WR.nil ?_)
    refine WC.seq (WC.seq (WC.region ?_))
    refine WR.s rfl rfl ?_
    refine WR.s rfl rfl (WR.nil ?_)
    refine WC.tt rfl rfl ?_
    refine WC.seq (WC.region ?_)
    refine WR.s rfl rfl ?_
    iterate 2 refine WR.sL rfl rfl ?_
    refine WR.nil ?_
    exact WC.ret ⟨_, rfl, (X06.trans X7).trans (X8.upd U9 (.inl hb14)), .inl ⟨hlt, rfl⟩⟩
  · obtain ⟨W, hW⟩ := hW heq
    revert hW I heq
    have hmem : ∀ r ∈ fndI k hs (k + m), r < k + m := fun r hr => (fndI_mem hr).1
    revert hmem
    generalize fndI k hs (k + m) = ls
    intro hmem heq I hW
    iterate 3 refine WR.s rfl rfl ?_
    refine WR.stepL (Runs.al rfl) rfl ?_
    rintro _ h8 ⟨b14, rfl, hb14, B14, X8⟩
    refine WR.stepU (RunsU.stB B14 rfl rfl (I.1.one)) ?_
    rintro h9 ⟨B149, U9⟩
    refine WR.sL rfl rfl (WR.nil ?_)
    have X79 : Ext h7 h9 := X8.upd U9 (.inl hb14)
    have X69 := X7.trans X79
    have X09 := X06.trans X69
    have E5 := D5.ext X69
    have E6 := D6.ext X69
    have E9 := D9.ext X69
    have E12 := B126.ext X69
    have G9 := G6.ext X69
    have I9 := I.ext X79
    clear D5 D6 D9 B126 G6 I B14 X8 U9 X7 X79 hb14 X69
    refine WC.seq (WC.seq (WC.region ?_))
    refine WR.s rfl rfl ?_
    refine WR.s rfl rfl (WR.nil ?_)
    refine WC.ff rfl rfl (WC.skip ?_)
    refine WC.seq (WC.region ?_)
    refine WR.v (RunsV.ldW E12 rfl rfl) rfl ?_
    refine WR.v (RunsV.ldB B149 rfl) rfl ?_
    refine WR.callT (matrix_Pick_spec G9.bytes I9.ints hmem (by omega) hkm (by omega) hk) rfl rfl rfl ?_
    rw [heq]
    rintro _ h10 ⟨X10, p, rfl, P⟩
    iterate 3 refine WR.s rfl rfl ?_
    refine WR.stepL (Runs.alA (z := zMat)) rfl ?_
    rintro _ h11 ⟨b15, rfl, hb15, B15, X11⟩
    refine WR.stepU (RunsU.stW (vs := mat3 k k p) B15 rfl rfl rfl rfl (mat3_one P.1.one)) ?_
    rintro h12 ⟨B152, U12⟩
    refine WR.s rfl rfl (WR.nil ?_)
    have X1012 : Ext h10 h12 := X11.upd U12 (.inl hb15)
    have X912 := X10.trans X1012
    have X012 := X09.trans X912
    have P12 := P.ext X1012
    refine WC.seq (WC.region ?_)
    refine WR.v (RunsV.ldB (E5.ext X912) rfl) rfl ?_
    refine WR.v (RunsV.ldW B152 rfl rfl) rfl ?_
    refine WR.callT (matrix_Invert_spec (F.ext X012) (fun i s => by have := hS i s; have := X012.size; omega) P12.bytes hk (by omega) hW) rfl rfl rfl ?_
    rintro _ h13 ⟨X13, v, rfl, V⟩
    iterate 3 refine WR.s rfl rfl ?_
    refine WR.stepL (Runs.alA (z := zMat)) rfl ?_
    rintro _ h14 ⟨b17, rfl, hb17, B17, X14⟩
    refine WR.stepU (RunsU.stW (vs := mat3 k k v) B17 rfl rfl rfl rfl (mat3_one V.1.one)) ?_
    rintro h15 ⟨B175, U15⟩
    refine WR.sL rfl rfl (WR.nil ?_)
    have X1315 : Ext h13 h15 := X14.upd U15 (.inl hb17)
    have X915 := (X912.trans X13).trans X1315
    have X015 := X09.trans X915
    have V15 := V.ext X1315
    have H5 := E5.ext X915
    have H6 := E6.ext X915
    have H9 := E9.ext X915
    have H14 := B149.ext X915
    have I15 := I9.ext X915
    clear E5 E6 E9 E12 B149 I9 V P P12 B15 B152 B17 X11 U12 X1012 X912 X012 X10 X13 X14 U15 X1315 X915 hb15 hb17 G9 X09 X06 X03
    refine WC.seq (WC.seq (WC.region ?_))
    refine WR.s rfl rfl ?_
    refine WR.s rfl rfl (WR.nil ?_)
    refine WC.ff rfl rfl (WC.skip ?_)
    refine WC.seq (WC.region ?_)
    refine WR.s rfl rfl ?_
    refine WR.sL rfl rfl (WR.nil ?_)
    refine WC.seq (WC.region ?_)
    refine WR.sL rfl rfl (WR.nil ?_)
    refine WC.seq (WC.seq (WC.region ?_))
    refine WR.vL (RunsV.ldB H6 rfl) rfl ?_
    refine WR.sL rfl rfl (WR.nil ?_)
    refine WC.block ?_
    refine WC.loop (σ := Nat × Value) (fun q => [(2, vI m), (5, ptr b5), (6, ptr b6), (18, .func (.func f_erase_Decode_1) #[] #[ptr b9, ptr b14, ptr b17, ptr b6, ptr b5]), (19, q.2), (73, vI k), (74, vI q.1)])
      (fun q h' => q.1 ≤ k ∧ Ext h15 h' ∧ ∃ vs, Rows false h' h15.size q.2 vs ((decL W ls ll k L).take q.1)) (fun q => k - q.1) (0, .slice none 0 0) (fun _ => rfl)
      ⟨rfl, rfl, rfl, rfl, rfl, rfl, rfl, trivial⟩ ⟨by simp, Ext.refl _, [], by simpa using Rows.nils (n := 0) (Own.nil h15 h15.size t_sl_uint8 1) (by omega)⟩ ?_
    rintro ⟨j, o⟩ k1 ⟨hj, X, vs, R⟩
    dsimp only at hj R
    have hdl : (decL W ls ll k L).length = k := by simp [decL]
    have hrl : ((decL W ls ll k L).take j).length = j := by rw [List.length_take, hdl]; omega
    refine WC.seq (WC.region ?_)
    refine WR.s rfl rfl (WR.nil ?_)
    refine WC.seq ?_
    refine WC.itep rfl (fun e => ?_) (fun e => ?_)
    · have hj' : j < k := by omega
      refine WC.skip ?_
      refine WC.seq (WC.block ?_)
      refine WC.seq (WC.region ?_)
      refine WR.s rfl rfl ?_
      refine WR.sL rfl rfl (WR.nil ?_)
      refine WC.region ?_
      iterate 3 refine WR.s rfl rfl ?_
      have X0 := X015.trans X
      refine WR.callC (erase_Decode_1_spec (F.ext X0) (fun i s => by have := hS i s; have := X0.size; omega) (H9.ext X) (H14.ext X) (B175.ext X) (H6.ext X) (H5.ext X) (D.ext X0) (I15.ext X).ints (V15.ext X).bytes hj' (by omega) heq (fun l hl => by have := hmem l hl; omega) hL hL0) rfl rfl rfl rfl ?_
      rintro z k2 ⟨X2, O2⟩
      have R2 := R.keep X2 (fun _ _ _ => trivial)
      have hs1 := X.size
      have hs2 := X2.size
      refine WR.ap1T R2.own (by omega) rfl rfl (fun _ => rfl) rfl O2.1.one rfl (by omega) (by omega) ?_
      rintro x v' k3 O3 K3 -
      refine WR.sL rfl rfl (WR.nil ?_)
      refine WC.region ?_
      refine WR.v (RunsV.add rfl rfl (by omega)) rfl ?_
      refine WR.sL rfl rfl (WR.nil ?_)
      have R3 := R2.snoc O2 X.size (fun j x g hj e1 e2 => (R.lt hj e1 rfl e2).2) K3 O3 (by omega)
      refine ⟨(j + 1, v'), ⟨rfl, rfl, rfl, rfl, rfl, rfl, rfl, trivial⟩, ⟨hj', Keeps.own (X.trans X2) R2.own (Nat.le_refl _) K3, vs ++ [z], ?_⟩, by dsimp only; omega⟩
      dsimp only
      rw [List.take_succ_eq_append_getElem (by omega), show (decL W ls ll k L)[j]'(by omega) = decI (fun r c => W r (k + c)) ls ll j L k by simp [decL]]
      exact R3
    · refine WC.exit (exit_hit ?_)
      obtain rfl : j = k := by omega
      rw [show (decL W ls ll j L).take j = decL W ls ll j L by rw [List.take_of_length_le (by omega)]] at R
      have hc : chkd j m j (decL W ls ll j L) = 0 := by
        unfold chkd
        rw [chk_iff.2 (by omega)]
        have hall : ∀ l ∈ decL W ls ll j L, l.length = L := by
          intro l hl
          obtain ⟨q, _, rfl⟩ := List.mem_map.1 hl
          exact decI_len ..
        have : fits j (decL W ls ll j L) = true := by
          unfold fits
          rw [hdl]
          simp only [decide_true, Bool.true_and, List.all_eq_true, beq_iff_eq]
          intro l hl
          rw [hall l hl]
          have : 0 < (decL W ls ll j L).length := by omega
          rw [headD_get this, hall _ (List.getElem_mem _)]
        simp [this]
      have X0 := X015.trans X
      refine WC.seq (WC.region ?_)
      refine WR.v (RunsV.ldB (H5.ext X) rfl) rfl ?_
      refine WR.v (RunsV.ldB (H6.ext X) rfl) rfl ?_
      iterate 2 refine WR.s rfl rfl ?_
      refine WR.callT (bulk_Encode_spec (F.ext X0) (fun i s => by have := hS i s; have := X0.size; omega) j m R.read) rfl rfl rfl ?_
      rintro _ k2 ⟨X2, ⟨hc2, _⟩ | ⟨_, u, ws, rfl, R2⟩⟩
      · exact absurd hc hc2
      · iterate 2 refine WR.s rfl rfl ?_
        iterate 2 refine WR.sL rfl rfl ?_
        refine WR.nil ?_
        exact WC.ret ⟨_, rfl, X0.trans X2, .inr ⟨rfl, W, hW, u, ws, rfl, R2.rebase X0.size⟩⟩
end Go.Eng
