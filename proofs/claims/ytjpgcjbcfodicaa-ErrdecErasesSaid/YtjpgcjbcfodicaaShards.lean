/- Steps of the proof: lemmas for every input, without conditions but those that each states. -/
import Derived.Test.YtjpgcjbcfodicaaWord2
import Derived.Test.YtjpgcjbcfodicaaLay
set_option linter.unusedSimpArgs false
set_option linter.unusedVariables false
namespace Go.Eng
/-- The length of the shards that are there, so far; none: they differ. -/
def szI (has : List Bool) (ll : List (List UInt8)) : Nat → Option Int
  | 0 => some (-1)
  | i + 1 => match szI has ll i with
    | none => none
    | some n => if has.getD i false = true then (if 0 ≤ n ∧ ((ll.getD i []).length : Int) ≠ n then none else some (ll.getD i []).length) else some n
def sizeP (k m : Nat) (has : List Bool) (ll : List (List UInt8)) : Int :=
  if has.length ≠ k + m ∨ ll.length ≠ k + m then -1 else (szI has ll (k + m)).getD (-1)
theorem szI_spec {has : List Bool} {ll : List (List UInt8)} : ∀ i n, szI has ll i = some n → ∀ j, j < i → has.getD j false = true → ((ll.getD j []).length : Int) = n
  | 0, n, e, j, hj, _ => absurd hj (by omega)
  | i + 1, n, e, j, hj, hb => by
    rw [szI] at e
    split at e
    · cases e
    · rename_i n' e'
      have ih := szI_spec i n' e'
      split at e
      · rename_i hi
        split at e
        · cases e
        · rename_i hn
          by_cases c : j = i
          · subst c; exact Option.some.inj e
          · have h1 := ih j (by omega) hb
            have h2 := Option.some.inj e
            omega
      · rename_i hi
        have h2 := Option.some.inj e
        by_cases c : j = i
        · subst c; exact absurd hb hi
        · rw [← h2]; exact ih j (by omega) hb
theorem sizeP_spec {k m : Nat} {has : List Bool} {ll : List (List UInt8)} (h : 0 ≤ sizeP k m has ll) : has.length = k + m ∧ ll.length = k + m ∧ ∀ j, j < k + m → has.getD j false = true → ((ll.getD j []).length : Int) = sizeP k m has ll := by
  unfold sizeP at h ⊢
  split at h
  · omega
  · rename_i c
    rw [if_neg c]
    refine ⟨by omega, by omega, ?_⟩
    cases e : szI has ll (k + m) with
    | none => rw [e] at h; simp at h
    | some n => exact szI_spec _ _ e
theorem errdec_size_spec {U T : Nat → Prop} {h : Heap} (k m : Nat) (hkm : k + m ≤ 256) {mv sv : Value} {has : List Bool} {ll : List (List UInt8)} (M : Bools U h mv has) (D : BytesL T h sv ll) :
    Spec PP f_errdec_size #[vI k, vI m, mv, sv] h (fun v h' => v = vI (sizeP k m has ll) ∧ h' = h) := by
  obtain ⟨vs, Q, rows⟩ := D
  have hml := M.2.1
  have hql := Q.2.1
  refine Spec.body (C := c_errdec_size) [(0, vI k), (1, vI m), (2, mv), (3, sv)] h_errdec_size rfl rfl rfl ⟨rfl, rfl, rfl, rfl, trivial⟩ rfl ?_
  refine WC.seq (WC.region ?_)
  refine WR.sL rfl rfl (WR.nil ?_)
  refine WC.seq (WC.seq (WC.region ?_))
  refine WR.s rfl rfl ?_
  refine WR.v (RunsV.lenSl M rfl) rfl ?_
  iterate 2 refine WR.s rfl rfl ?_
  refine WR.v (RunsV.to (v' := vI ((k + m : Nat))) (RunsV.add rfl rfl (by omega)) (by simp)) rfl ?_
  iterate 2 refine WR.s rfl rfl ?_
  refine WG.start rfl rfl ?_
  refine WG.s rfl rfl rfl rfl ?_
  refine WG.v rfl (fun e => RunsV.lenSl Q rfl) rfl rfl ?_
  iterate 2 refine WG.s rfl rfl rfl rfl ?_
  refine WG.v rfl (fun e => RunsV.to (v' := vI ((k + m : Nat))) (RunsV.add rfl rfl (by omega)) (by simp)) rfl rfl ?_
  refine WG.s rfl rfl rfl rfl ?_
  refine WG.or rfl rfl (WR.nil ?_)
  refine WC.ite rfl (fun e => ?_) (fun e => ?_)
  · refine WC.seq (WC.region ?_)
    refine WR.sL rfl rfl (WR.nil ?_)
    refine WC.ret ⟨_, rfl, ?_, rfl⟩
    rw [sizeP, if_pos (by simp at e; omega)]
    rfl
  · have hh : has.length = k + m ∧ ll.length = k + m := by simp at e; omega
    refine WC.skip ?_
    refine WC.seq (WC.region ?_)
    refine WR.sL rfl rfl (WR.nil ?_)
    refine WC.seq (WC.seq (WC.region ?_))
    refine WR.sL rfl rfl ?_
    refine WR.vL (RunsV.lenSl M rfl) rfl ?_
    refine WR.sL rfl rfl (WR.nil ?_)
    refine WC.block ?_
    refine WC.loop (σ := Nat × Int) (fun q => [(3, sv), (8, vI 0), (9, vI q.2), (26, mv), (27, vI has.length), (28, vI q.1)]) (fun q h' => q.1 ≤ k + m ∧ h' = h ∧ szI has ll q.1 = some q.2) (fun q => k + m - q.1) (0, -1) (fun _ => rfl)
      ⟨rfl, rfl, rfl, rfl, rfl, rfl, trivial⟩ ⟨by simp, rfl, rfl⟩ ?_
    rintro ⟨i, n⟩ h1 ⟨hi, rfl, hs⟩
    dsimp only at hi hs
    refine WC.seq (WC.region ?_)
    refine WR.s rfl rfl (WR.nil ?_)
    refine WC.seq ?_
    refine WC.itep rfl (fun e2 => ?_) (fun e2 => ?_)
    · have hi' : i < k + m := by omega
      obtain ⟨x, hx, Dx⟩ := rows i (by omega)
      have hgd : has[i]'(by omega) = has.getD i false := by rw [List.getD_eq_getElem?_getD, List.getElem?_eq_getElem (by omega)]; rfl
      have hgl : ll.getD i [] = ll[i]'(by omega) := by rw [List.getD_eq_getElem?_getD, List.getElem?_eq_getElem (by omega)]; rfl
      have hstep : szI has ll (i + 1) = if has.getD i false = true then (if 0 ≤ n ∧ ((ll.getD i []).length : Int) ≠ n then none else some ((ll.getD i []).length : Int)) else some n := by rw [szI, hs]
      rw [hgl] at hstep
      refine WC.skip ?_
      refine WC.seq (WC.block ?_)
      refine WC.seq (WC.region ?_)
      refine WR.s rfl rfl ?_
      refine WR.v (RunsV.ix (M.has (by omega)) i (by omega) rfl rfl rfl) rfl ?_
      refine WR.v (RunsV.ldE M (by omega) rfl rfl (tcells_get (by omega))) rfl ?_
      iterate 2 refine WR.sL rfl rfl ?_
      refine WR.nil ?_
      rw [hgd]
      refine WC.seq (WC.seq (WC.region ?_))
      iterate 2 refine WR.s rfl rfl ?_
      refine WG.start rfl rfl ?_
      iterate 2 refine WG.s rfl rfl rfl rfl ?_
      refine WG.and rfl rfl ?_
      refine WR.s rfl rfl ?_
      refine WG.start rfl rfl ?_
      iterate 2 refine WG.s rfl rfl rfl rfl ?_
      refine WG.v rfl (fun e => RunsV.ix (Q.has (by omega)) i (by omega) rfl rfl rfl) rfl rfl ?_
      refine WG.v rfl (fun e => RunsV.ldE Q (by omega) rfl rfl hx) rfl rfl ?_
      refine WG.v rfl (fun e => RunsV.lenSl Dx rfl) rfl rfl ?_
      iterate 2 refine WG.s rfl rfl rfl rfl ?_
      refine WG.and rfl rfl (WR.nil ?_)
      refine WC.ite rfl (fun e3 => ?_) (fun e3 => ?_)
      · simp only [Bool.and_eq_true, decide_eq_true_eq] at e3
        refine WC.seq (WC.region ?_)
        refine WR.sL rfl rfl (WR.nil ?_)
        refine WC.ret ⟨_, rfl, ?_, rfl⟩
        rw [if_pos e3.1.1, if_pos ⟨e3.1.2, e3.2⟩] at hstep
        have : szI has ll (k + m) = none := by
          have : ∀ j, szI has ll (i + 1 + j) = none := fun j => by
            induction j with
            | zero => exact hstep
            | succ j ih => rw [← Nat.add_assoc, szI, ih]
          have := this (k + m - (i + 1))
          rwa [show i + 1 + (k + m - (i + 1)) = k + m by omega] at this
        rw [sizeP, if_neg (by omega), this]
        rfl
      · refine WC.skip ?_
        refine WC.seq (WC.region ?_)
        refine WR.s rfl rfl (WR.nil ?_)
        refine WC.ite rfl (fun e4 => ?_) (fun e4 => ?_)
        · rw [if_pos e4, if_neg (by rw [e4] at e3; simp at e3; omega)] at hstep
          refine WC.region ?_
          iterate 2 refine WR.s rfl rfl ?_
          refine WR.v (RunsV.ix (Q.has (by omega)) i (by omega) rfl rfl rfl) rfl ?_
          refine WR.v (RunsV.ldE Q (by omega) rfl rfl hx) rfl ?_
          refine WR.v (RunsV.lenSl Dx rfl) rfl ?_
          refine WR.sL rfl rfl (WR.nil ?_)
          refine WC.region ?_
          refine WR.v (RunsV.add rfl rfl (by omega)) rfl ?_
          refine WR.sL rfl rfl (WR.nil ?_)
          exact ⟨(i + 1, _), ⟨rfl, rfl, rfl, rfl, rfl, rfl, trivial⟩, ⟨hi', rfl, hstep⟩, by dsimp only; omega⟩
        · rw [if_neg (by rw [e4]; simp)] at hstep
          refine WC.skip ?_
          refine WC.region ?_
          refine WR.v (RunsV.add rfl rfl (by omega)) rfl ?_
          refine WR.sL rfl rfl (WR.nil ?_)
          exact ⟨(i + 1, n), ⟨rfl, rfl, rfl, rfl, rfl, rfl, trivial⟩, ⟨hi', rfl, hstep⟩, by dsimp only; omega⟩
    · refine WC.exit (exit_hit ?_)
      obtain rfl : i = k + m := by omega
      refine WC.seq (WC.region ?_)
      refine WR.s rfl rfl ?_
      refine WR.sL rfl rfl (WR.nil ?_)
      refine WC.ret ⟨_, rfl, ?_, rfl⟩
      rw [sizeP, if_neg (by omega), hs]
      rfl
/-- A byte is appended to a row. -/
theorem Rows.app {h h1 h2 : Heap} {base g : Nat} {v : Value} {vs : List Value} {ll : List (List UInt8)} (r : Rows false h base v vs ll) {i : Nat} (hi : i < ll.length) {u u' : Value} (hu : vs[i]? = some u) {x : UInt8} (hb : base ≤ h.size)
    (O' : Own h1 base t_uint8 1 u' (ll[i].length + 1) (bcells ll[i] ++ [vB x])) (hl : ll[i].length + 1 ≤ 140737488355328) (K : Keeps (fun b => u.ownBlock ≠ some b) h h1) (G : Grew h u u') (own2 : Own h2 base t_sl_uint8 1 v ll.length (vs.set i u')) (hg : v.ownBlock = some g) (U : Upd g h1 h2) :
    Rows false h2 base v (vs.set i u') (ll.set i (ll[i] ++ [x])) := by
  have hvl := r.vlen
  have Ou := r.ob hi hu
  have hvt := r.own.ty hg
  have hvu : u.ownBlock ≠ some g := fun q => absurd ((Ou.ty q).inj hvt) (by decide)
  have hvt1 : tyAt h1 g t_sl_uint8 := hvt.keep K hvu
  have ap : ∀ j y b, j < ll.length → j ≠ i → vs[j]? = some y → y.ownBlock = some b → u.ownBlock ≠ some b ∧ u'.ownBlock ≠ some b := fun j y b hj ne e1 e2 => by
    have q1 : u.ownBlock ≠ some b := fun q => ne (r.apart j i hj hi y u b e1 hu (fun q => (nomatch q)) e2 q)
    refine ⟨q1, fun q => ?_⟩
    rcases G with e | ⟨b', e, q'⟩
    · rw [e] at q; exact q1 q
    · rw [e] at q
      simp at q
      have := (r.lt hj e1 rfl e2).2
      omega
  have O2 : OB t_uint8 h2 base u' (ll[i] ++ [x]) := (OB.snoc O' hl).upd U (fun q => absurd ((O'.ty q).inj hvt1) (by decide))
  refine ⟨by rw [List.length_set]; exact own2, by rw [List.length_set]; exact r.len, fun j hj => ?_, fun a b ha hb x1 y1 z e1 e2 _ e4 e5 => ?_⟩
  · rw [List.length_set] at hj
    by_cases q : i = j
    · subst q
      exact ⟨u', by simp [hvl, hj], .inr (by simpa using O2)⟩
    · obtain ⟨y, h1', h2'⟩ := r.row j hj
      refine ⟨y, by rw [List.getElem?_set_ne q]; exact h1', ?_⟩
      rw [List.getElem_set_ne q]
      refine h2'.imp id fun o => ?_
      have o1 := o.keep K fun b hb => (ap j y b hj (Ne.symm q) h1' hb).1
      exact o1.upd U (fun z => absurd ((o1.ty z).inj hvt1) (by decide))
  · rw [List.length_set] at ha hb
    by_cases qa : i = a
    · by_cases qb : i = b
      · omega
      · subst qa
        rw [List.getElem?_set_ne qb] at e2
        simp [hvl, ha] at e1
        subst e1
        exact absurd e4 (ap b y1 z hb (Ne.symm qb) e2 e5).2
    · by_cases qb : i = b
      · subst qb
        rw [List.getElem?_set_ne qa] at e1
        simp [hvl, hb] at e2
        subst e2
        exact absurd e5 (ap a x1 z ha (Ne.symm qa) e1 e4).2
      · rw [List.getElem?_set_ne qa] at e1
        rw [List.getElem?_set_ne qb] at e2
        exact r.apart a b ha hb x1 y1 z e1 e2 (fun q => (nomatch q)) e4 e5
end Go.Eng
namespace Go.Eng
/-- Only blocks of type T are changed. -/
abbrev Chg (T : TypeId) (h h' : Heap) : Prop := Keeps (fun b => ¬ tyAt h b T) h h'
theorem Upd.chg {g : Nat} {h h' : Heap} {T : TypeId} (u : Upd g h h') (t : tyAt h g T) : Chg T h h' := ⟨by rw [u.1]; exact Nat.le_refl _, fun i _ q => u.2 i fun e => q (e ▸ t)⟩
theorem Own.chg {h h' : Heap} {base T sz n : Nat} {v : Value} {xs : List Value} (o : Own h base T sz v n xs) (k : Keeps (fun b => v.ownBlock ≠ some b) h h') : Chg T h h' := k.mono fun i _ q e => q (o.ty e)
theorem Box.of {T U : TypeId} {h h' : Heap} {b : Nat} {u : Value} (B : Box h b U u) (c : Chg T h h') (ne : U ≠ T) : Box h' b U u := B.keep c fun t => ne (B.ty.inj t)
theorem Own.of {U T sz n base : Nat} {h h' : Heap} {v : Value} {xs : List Value} (o : Own h base U sz v n xs) (c : Chg T h h') (ne : U ≠ T) : Own h' base U sz v n xs := o.keep c fun b e t => ne ((o.ty e).inj t)
theorem OB.of {U T base : Nat} {h h' : Heap} {v : Value} {l : List UInt8} (o : OB U h base v l) (c : Chg T h h') (ne : U ≠ T) : OB U h' base v l := ⟨o.1.of c ne, o.2⟩
theorem OI.of {U T base : Nat} {h h' : Heap} {v : Value} {l : List Int} (o : OI U h base v l) (c : Chg T h h') (ne : U ≠ T) : OI U h' base v l := ⟨o.1.of c ne, o.2⟩
theorem Rows.of {T base : Nat} {h h' : Heap} {v : Value} {vs : List Value} {ll : List (List UInt8)} (r : Rows false h base v vs ll) (c : Chg T h h') (n1 : t_sl_uint8 ≠ T) (n2 : t_uint8 ≠ T) : Rows false h' base v vs ll :=
  ⟨r.own.of c n1, r.len, fun i hi => by
    obtain ⟨u, h1, h2⟩ := r.row i hi
    exact ⟨u, h1, h2.imp id fun o => o.of c n2⟩, r.apart⟩
structure Shd (h : Heap) (base b1 bk bm bh bi bs bf bo bw f k m : Nat) (hv sv : Value) (ms : List Bool) (out : List (List UInt8)) (wr : List Int) : Prop where
  k : Box h bk t_int (vI k)
  m : Box h bm t_int (vI m)
  hs : Box h bh t_sl_bool hv
  sh : Box h bs t_sl_sl_uint8 sv
  f : Box h bf t_ptr_gf_Field (ptr f)
  mi : ∃ v, Box h bi t_sl_bool v ∧ Own h base t_bool 1 v ms.length (tcells ms)
  o : ∃ v vs, Box h bo t_sl_sl_uint8 v ∧ Rows false h base v vs out
  w : ∃ v, Box h bw t_sl_int v ∧ OI t_int h b1 v wr
  lt : bk < b1 ∧ bm < b1 ∧ base ≤ b1 ∧ base ≤ bw ∧ b1 ≤ h.size
section
variable {h h' : Heap} {base b1 bk bm bh bi bs bf bo bw f k m : Nat} {hv sv : Value} {ms : List Bool} {out : List (List UInt8)} {wr : List Int}
theorem Shd.ext (s : Shd h base b1 bk bm bh bi bs bf bo bw f k m hv sv ms out wr) (x : Ext h h') : Shd h' base b1 bk bm bh bi bs bf bo bw f k m hv sv ms out wr := by
  obtain ⟨v1, B1, O1⟩ := s.mi
  obtain ⟨v2, vs, B2, O2⟩ := s.o
  obtain ⟨v3, B3, O3⟩ := s.w
  exact ⟨s.k.ext x, s.m.ext x, s.hs.ext x, s.sh.ext x, s.f.ext x, ⟨v1, B1.ext x, O1.ext x⟩, ⟨v2, vs, B2.ext x, O2.keep x fun _ _ _ => trivial⟩, ⟨v3, B3.ext x, O3.ext x⟩, by have := s.lt; have := x.size; omega⟩
/-- A block behind all of them is changed. -/
theorem Shd.upd (s : Shd h base b1 bk bm bh bi bs bf bo bw f k m hv sv ms out wr) {h1 h2 : Heap} (x : Ext h h1) {g : Nat} (hg : h.size ≤ g) (u : Upd g h1 h2) : Shd h2 base b1 bk bm bh bi bs bf bo bw f k m hv sv ms out wr := s.ext (x.upd u (.inl hg))
end
/-- The word at a place. -/
def wordAt (has : List Bool) (ll : List (List UInt8)) (n i : Nat) : List UInt8 := (List.range has.length).map fun q => if q < i ∧ has.getD q false = true then (ll.getD q []).getD n 0 else 0
theorem wordAt_len (has : List Bool) (ll : List (List UInt8)) (n i : Nat) : (wordAt has ll n i).length = has.length := by simp [wordAt]
theorem wordAt_zero (has : List Bool) (ll : List (List UInt8)) (n : Nat) : wordAt has ll n 0 = List.replicate has.length 0 := by
  apply List.ext_getElem (by simp [wordAt])
  intro q h1 h2
  simp [wordAt]
theorem wordAt_skip {has : List Bool} {ll : List (List UInt8)} {n i : Nat} (h : has.getD i false = false) : wordAt has ll n (i + 1) = wordAt has ll n i := by
  apply List.ext_getElem (by simp [wordAt])
  intro q h1 h2
  simp only [wordAt, List.getElem_map, List.getElem_range]
  by_cases e : q = i
  · subst e; rw [if_neg (by rw [h]; simp), if_neg (by omega)]
  · by_cases c : q < i ∧ has.getD q false = true
    · rw [if_pos c, if_pos ⟨by omega, c.2⟩]
    · rw [if_neg c, if_neg (fun z => c ⟨by omega, z.2⟩)]
theorem wordAt_hit {has : List Bool} {ll : List (List UInt8)} {n i : Nat} (hi : i < has.length) (h : has.getD i false = true) : (wordAt has ll n i).set i ((ll.getD i []).getD n 0) = wordAt has ll n (i + 1) := by
  apply List.ext_getElem (by simp [wordAt])
  intro q h1 h2
  rw [List.getElem_set]
  simp only [wordAt, List.getElem_map, List.getElem_range]
  by_cases e : i = q
  · subst e; rw [if_pos rfl, if_pos ⟨by omega, h⟩]
  · rw [if_neg e]
    by_cases c : q < i ∧ has.getD q false = true
    · rw [if_pos c, if_pos ⟨by omega, c.2⟩]
    · rw [if_neg c, if_neg (fun z => c ⟨by omega, z.2⟩)]
/-- What is missing, so far. -/
def misI (has ms : List Bool) (i : Nat) : List Bool := mix (has.map (!·)) ms i
/-- Rows with one more byte, so far. -/
def appI (out : List (List UInt8)) (x : List UInt8) (i : Nat) : List (List UInt8) := out.mapIdx fun q l => if q < i then l ++ [x.getD q 0] else l
theorem appI_len (out : List (List UInt8)) (x : List UInt8) (i : Nat) : (appI out x i).length = out.length := by simp [appI]
theorem appI_zero (out : List (List UInt8)) (x : List UInt8) : appI out x 0 = out := by
  apply List.ext_getElem (appI_len ..)
  intro q h1 h2
  simp [appI]
theorem appI_get {out : List (List UInt8)} {x : List UInt8} {i : Nat} (hi : i < out.length) : (appI out x i)[i]'(by rw [appI_len]; exact hi) = out[i] := by simp [appI]
theorem appI_succ {out : List (List UInt8)} {x : List UInt8} {i : Nat} (hi : i < out.length) : (appI out x i).set i (out[i] ++ [x.getD i 0]) = appI out x (i + 1) := by
  apply List.ext_getElem (by simp [appI_len])
  intro q h1 h2
  rw [List.getElem_set]
  simp only [appI, List.getElem_mapIdx]
  by_cases e : i = q
  · subst e; rw [if_pos rfl, if_pos (by omega)]
  · rw [if_neg e]
    by_cases c : q < i
    · rw [if_pos c, if_pos (by omega)]
    · rw [if_neg c, if_neg (by omega)]
theorem tcells_set (l : List Bool) (i : Nat) (x : Bool) : (tcells l).set i (.bool x) = tcells (l.set i x) := by simp [tcells, List.map_set]
theorem wordP_len {k m : Nat} {w : List UInt8} {ms : List Bool} {q : List UInt8 × List Int} (h : wordP k m w ms = some q) : q.1.length = w.length ∧ q.2.length ≤ k + m := by
  unfold wordP at h
  split at h
  · cases h
  · split at h
    · cases h
    · rename_i p _
      dsimp only at h
      split at h
      · cases h
      · cases h
        have := wdI_len k m ms (mulP p.1 (locP (knI ms (k + m)))) (derivP (mulP p.1 (locP (knI ms (k + m))))) p.2 (erI w ms (k + m)) (k + m)
        exact ⟨by rw [this.1, erI_len], this.2.1⟩
end Go.Eng
namespace Go.Eng
/-- What a word's putting right gives: its bytes, its wrong places, its error. -/
def wordR (k m : Nat) (w : List UInt8) (ms : List Bool) : List UInt8 × List Int × Int :=
  match wordP k m w ms with
  | none => ([], [], 100)
  | some q => (q.1, q.2, 0)
theorem Runs.apI {C : Ctx} {tm lo : Env} {h : Heap} {base E : TypeId} {T : TypeId} {z : Value} {bytes : Nat} [u : Und C.P T (.slice E)] [i : Inf C.P E z 1 bytes] {s x : Operand} {v y : Value} {xs ys : List Int} {S : Nat → Prop}
    (O : OI E h base v xs) (hbase : base ≤ h.size) (Q : Ints S h y ys) (hs : opv tm lo s = some v) (hx : opv tm lo x = some y) (hz : z.cells = #[z]) (hb : (xs.length + ys.length) * bytes ≤ 140737488355328) (hb0 : 0 < bytes) (hl : xs.length + ys.length ≤ 17592186044416) :
    Runs C tm lo h (.call { callee := .builtin .append, args := #[s, x], argTypes := #[T, T] }) (fun v' h' => OI E h' base v' (xs ++ ys) ∧ Keeps (fun b => v.ownBlock ≠ some b) h h' ∧ Grew h v v') := fun c w F hh dst ty pos af gd => by
  obtain ⟨v', w', r1, r2, r3, r4, r5⟩ := Runs.ap (C := C) (T := T) O.1 hbase Q hs hx (by rw [hz]; rfl) (by omega) (icells_one ys) hb hb0 c w F hh dst ty pos af gd
  exact ⟨v', w', r1, r2, ⟨by rw [icells_append, List.length_append]; exact r3, by rw [List.length_append]; exact hl⟩, r4, r5⟩
theorem errdec_Shards_1_spec {S T U : Nat → Prop} {h : Heap} {base b1 bk bm bh bi bs bf bo bw f k m : Nat} {hv sv : Value} {has ms : List Bool} {ll out : List (List UInt8)} {wr : List Int} (n : Nat)
    (F : Fld S h f) (hS : ∀ i, S i → i < base) (M : Bools T h hv has) (hT : ∀ i, T i → i < base) (D : BytesL U h sv ll) (hU : ∀ i, U i → i < base)
    (s : Shd h base b1 bk bm bh bi bs bf bo bw f k m hv sv ms out wr) (hk : 1 ≤ k) (hkm : k + m ≤ 256) (hhas : has.length = k + m) (hll : ll.length = k + m) (hms : ms.length = k + m) (hout : out.length = k + m)
    (hn : ∀ j, j < k + m → has.getD j false = true → n < (ll.getD j []).length) (hwr : wr.length ≤ 1000000000000) (hol : ∀ l ∈ out, l.length ≤ 1000000000000) (hn2 : n < 140737488355328) :
    Spec PP f_errdec_Shards_1 #[vI n, ptr bk, ptr bm, ptr bh, ptr bi, ptr bs, ptr bf, ptr bo, ptr bw] h (fun v h' =>
      v = vI (wordR k m (wordAt has ll n (k + m)) (has.map (!·))).2.2 ∧
      Shd h' base b1 bk bm bh bi bs bf bo bw f k m hv sv (has.map (!·)) (appI out (wordR k m (wordAt has ll n (k + m)) (has.map (!·))).1 (wordR k m (wordAt has ll n (k + m)) (has.map (!·))).1.length) (wr ++ (wordR k m (wordAt has ll n (k + m)) (has.map (!·))).2.1) ∧ Keeps (fun b => b < base) h h') := by
  refine Spec.body (C := c_errdec_Shards_1) [(0, vI n), (1, ptr bk), (2, ptr bm), (3, ptr bh), (4, ptr bi), (5, ptr bs), (6, ptr bf), (7, ptr bo), (8, ptr bw)] h_errdec_Shards_1 rfl rfl rfl ⟨rfl, rfl, rfl, rfl, rfl, rfl, rfl, rfl, rfl, trivial⟩ rfl ?_
  obtain ⟨l1, l2, l3, l4, l5⟩ := s.lt
  obtain ⟨vm, Bm, Om⟩ := s.mi
  obtain ⟨usl, Q, rows⟩ := D
  refine WC.seq (WC.region ?_)
  refine WR.sL rfl rfl (WR.nil ?_)
  refine WC.seq (WC.region ?_)
  refine WR.v (RunsV.ldB s.k rfl) rfl ?_
  refine WR.v (RunsV.ldB s.m rfl) rfl ?_
  refine WR.v (RunsV.to (v' := vI ((k + m : Nat))) (RunsV.add rfl rfl (by omega)) (by simp)) rfl ?_
  refine WR.stepT (Runs.mk rfl (k + m) rfl rfl (by omega) (by omega)) rfl ?_
  rintro vw h1 ⟨O1, hvw, X1⟩
  refine WR.sL rfl rfl (WR.nil ?_)
  refine WC.seq (WC.seq (WC.region ?_))
  refine WR.vL (RunsV.ldB (s.hs.ext X1) rfl) rfl ?_
  refine WR.vL (RunsV.lenSl (Sl.ext M X1) rfl) rfl ?_
  refine WR.sL rfl rfl (WR.nil ?_)
  refine WC.block ?_
  have hmm : (has.map (!·)).length = ms.length := by simp; omega
  refine WC.loop (σ := Nat) (fun i => [(0, vI n), (1, ptr bk), (2, ptr bm), (3, ptr bh), (4, ptr bi), (5, ptr bs), (6, ptr bf), (7, ptr bo), (8, ptr bw), (11, vw), (23, hv), (24, vI has.length), (25, vI i)])
    (fun i h' => i ≤ k + m ∧ Chg t_bool h h' ∧ Keeps (fun b => b < base) h h' ∧ Own h' base t_bool 1 vm ms.length (tcells (misI has ms i)) ∧ Own h' h.size t_uint8 1 vw (k + m) (bcells (wordAt has ll n i))) (fun i => k + m - i) 0 (fun _ => rfl)
    ⟨rfl, rfl, rfl, rfl, rfl, rfl, rfl, rfl, rfl, rfl, rfl, rfl, rfl, trivial⟩ ⟨by omega, X1.mono fun _ _ _ => trivial, X1.mono fun _ _ _ => trivial, by rw [misI, mix_zero]; exact Om.ext X1, by rw [wordAt_zero, hhas, ← bcells_rep]; exact O1⟩ ?_
  clear O1 X1
  rintro i h2 ⟨hi, X2, Y2, Om2, Ow2⟩
  have hwl := wordAt_len has ll n i
  refine WC.seq (WC.region ?_)
  refine WR.s rfl rfl (WR.nil ?_)
  refine WC.seq ?_
  refine WC.itep rfl (fun e => ?_) (fun e => ?_)
  · have hi' : i < k + m := by omega
    have M2 := Sl.keep M Y2 (fun b _ q => hT b q)
    have hgd : has[i]'(by omega) = has.getD i false := by rw [List.getD_eq_getElem?_getD, List.getElem?_eq_getElem (by omega)]; rfl
    refine WC.skip ?_
    refine WC.seq (WC.block ?_)
    refine WC.seq (WC.region ?_)
    refine WR.s rfl rfl ?_
    refine WR.v (RunsV.ix (M2.has (by omega)) i (by omega) rfl rfl rfl) rfl ?_
    refine WR.v (RunsV.ldE M2 (by omega) rfl rfl (tcells_get (by omega))) rfl ?_
    iterate 2 refine WR.sL rfl rfl ?_
    refine WR.nil ?_
    refine WC.seq (WC.region ?_)
    refine WR.v (RunsV.ldB (Bm.of X2 (by decide)) rfl) rfl ?_
    iterate 3 refine WR.s rfl rfl ?_
    refine WR.v (RunsV.ix (Om2.has (by omega)) i (by omega) rfl rfl rfl) rfl ?_
    refine WR.stepU (RunsU.stO Om2 (by omega) rfl rfl rfl) ?_
    rintro h3 ⟨Om3, g, hg, hg2, hgv, U3⟩
    have tg : tyAt h g t_bool := Om.ty hgv
    have X3 : Chg t_bool h h3 := X2.upd U3 (.inr fun q => q tg)
    have Y3 : Keeps (fun b => b < base) h h3 := Y2.upd U3 (.inr fun q => by omega)
    have tg2 : tyAt h2 g t_bool := Om2.ty hgv
    have Ow3 := Ow2.of (U3.chg tg2) (by decide)
    have em : (has.map (!·))[i]'(by simp; omega) = !has[i]'(by omega) := by simp
    rw [tcells_set, misI, ← em, mix_set hmm (by simp; omega)] at Om3
    refine WR.nil ?_
    refine WC.seq (WC.region ?_)
    refine WR.s rfl rfl (WR.nil ?_)
    refine WC.ite rfl (fun e2 => ?_) (fun e2 => ?_)
    · rw [hgd] at e2
      have hnl := hn i hi' e2
      have hgl : ll.getD i [] = ll[i]'(by omega) := by rw [List.getD_eq_getElem?_getD, List.getElem?_eq_getElem (by omega)]; rfl
      rw [hgl] at hnl
      obtain ⟨x, hx, Dx⟩ := rows i (by omega)
      have Q3 := Q.keep Y3 (fun b _ q => hU b q)
      have D3 := Dx.keep Y3 (fun b _ q => hU b q)
      refine WC.region ?_
      iterate 2 refine WR.s rfl rfl ?_
      refine WR.v (RunsV.ldB (s.sh.of X3 (by decide)) rfl) rfl ?_
      refine WR.s rfl rfl ?_
      refine WR.v (RunsV.ix (Q3.has (by omega)) i (by omega) rfl rfl rfl) rfl ?_
      refine WR.v (RunsV.ldE Q3 (by omega) rfl rfl hx) rfl ?_
      refine WR.s rfl rfl ?_
      refine WR.v (RunsV.ix (D3.has (by omega)) n hnl rfl rfl rfl) rfl ?_
      refine WR.v (RunsV.ldE D3 (by omega) rfl rfl (bcells_get hnl)) rfl ?_
      refine WR.v (RunsV.ix (Ow3.has (by omega)) i hi' rfl rfl rfl) rfl ?_
      refine WR.stepU (RunsU.stO Ow3 hi' rfl rfl rfl) ?_
      rintro h4 ⟨Ow4, g', hg', hg2', hgv', U4⟩
      have X4 : Chg t_bool h h4 := X3.upd U4 (.inl hg')
      have Y4 : Keeps (fun b => b < base) h h4 := Y3.upd U4 (.inl hg')
      have Om4 := Om3.of (U4.chg (Ow3.ty hgv')) (by decide)
      have eb : ll[i][n] = (ll.getD i []).getD n 0 := by rw [hgl]; exact (cf_lt hnl).symm
      rw [bcells_set, eb, wordAt_hit (by omega) e2] at Ow4
      refine WR.nil ?_
      refine WC.region ?_
      refine WR.v (RunsV.add rfl rfl (by omega)) rfl ?_
      refine WR.sL rfl rfl (WR.nil ?_)
      exact ⟨i + 1, ⟨rfl, rfl, rfl, rfl, rfl, rfl, rfl, rfl, rfl, rfl, rfl, rfl, rfl, trivial⟩, ⟨hi', X4, Y4, Om4, Ow4⟩, by dsimp only; omega⟩
    · rw [hgd] at e2
      refine WC.skip ?_
      refine WC.region ?_
      refine WR.v (RunsV.add rfl rfl (by omega)) rfl ?_
      refine WR.sL rfl rfl (WR.nil ?_)
      exact ⟨i + 1, ⟨rfl, rfl, rfl, rfl, rfl, rfl, rfl, rfl, rfl, rfl, rfl, rfl, rfl, trivial⟩, ⟨hi', X3, Y3, Om3, by rw [wordAt_skip e2]; exact Ow3⟩, by dsimp only; omega⟩
  · refine WC.exit (exit_hit ?_)
    obtain rfl : i = k + m := by omega
    rw [misI, mix_full hmm (by simp; omega)] at Om2
    have Ob2 : OB t_uint8 h2 h.size vw (wordAt has ll n (k + m)) := ⟨by rw [hwl, hhas]; exact Ow2, by omega⟩
    have F2 := F.keep Y2 hS
    have hsz2 := X2.size
    have Mi2 : Bools (fun _ => True) h2 vm (has.map (!·)) := by
      have := Sl.mono (T := fun _ => True) (Om2.sl (by omega)) (fun _ _ _ => trivial) (by omega)
      rw [← hmm] at this
      exact this
    refine WC.seq (WC.region ?_)
    refine WR.v (RunsV.ldB (s.f.of X2 (by decide)) rfl) rfl ?_
    refine WR.v (RunsV.ldB (s.k.of X2 (by decide)) rfl) rfl ?_
    refine WR.v (RunsV.ldB (s.m.of X2 (by decide)) rfl) rfl ?_
    refine WR.s rfl rfl ?_
    refine WR.v (RunsV.ldB (Bm.of X2 (by decide)) rfl) rfl ?_
    refine WR.callT (errdec_Word_spec F2 k m hk hkm Ob2.any Mi2 (by omega) (by simp; omega)) rfl rfl rfl ?_
    rintro v3 h3 ⟨X3, q3⟩
    obtain ⟨vx, vy, rfl, Ox, Oy, hxl, hyl⟩ : ∃ vx vy, v3 = .tuple #[vx, vy, vI (wordR k m (wordAt has ll n (k + m)) (has.map (!·))).2.2] ∧ OB t_uint8 h3 h2.size vx (wordR k m (wordAt has ll n (k + m)) (has.map (!·))).1 ∧
        OI t_int h3 h2.size vy (wordR k m (wordAt has ll n (k + m)) (has.map (!·))).2.1 ∧ ((wordR k m (wordAt has ll n (k + m)) (has.map (!·))).1.length = k + m ∨ (wordR k m (wordAt has ll n (k + m)) (has.map (!·))).1 = []) ∧ (wordR k m (wordAt has ll n (k + m)) (has.map (!·))).2.1.length ≤ k + m := by
      unfold wordR
      cases hp : wordP k m (wordAt has ll n (k + m)) (has.map (!·)) with
      | none =>
        rw [hp] at q3
        exact ⟨_, _, q3, OB.nil _ _ _, OI.nil _ _ _, .inr rfl, by simp⟩
      | some q =>
        rw [hp] at q3
        obtain ⟨vx, vy, q1, q2, q4⟩ := q3
        have := wordP_len hp
        exact ⟨vx, vy, q1, q2, q4, .inl (by rw [this.1]; omega), this.2⟩
    obtain ⟨⟨x, y, er⟩, hr⟩ : ∃ r, r = wordR k m (wordAt has ll n (k + m)) (has.map (!·)) := ⟨_, rfl⟩
    rw [← hr] at Ox Oy hxl hyl ⊢
    dsimp only at Ox Oy hxl hyl ⊢
    iterate 4 refine WR.s rfl rfl ?_
    iterate 3 refine WR.sL rfl rfl ?_
    refine WR.nil ?_
    obtain ⟨vo, vs0, Bo, Ro⟩ := s.o
    have Ro3 := (Ro.of X2 (by decide) (by decide)).keep X3 (fun _ _ _ => trivial)
    have Bo3 := (Bo.of X2 (by decide)).ext X3
    have Y3 : Keeps (fun b => b < base) h h3 := Y2.trans (X3.mono fun _ _ _ => trivial)
    have hsz3 := X3.size
    have hxl' : x.length ≤ out.length := by rcases hxl with q | q; omega; rw [q]; simp
    refine WC.seq (WC.seq (WC.region ?_))
    refine WR.sL rfl rfl ?_
    refine WR.vL (RunsV.lenO Ox.1 rfl) rfl ?_
    refine WR.sL rfl rfl (WR.nil ?_)
    refine WC.block ?_
    refine WC.loop (σ := Nat) (fun i => [(7, ptr bo), (8, ptr bw), (15, vy), (16, vI er), (57, vx), (58, vI x.length), (59, vI i)])
      (fun i h' => i ≤ x.length ∧ Keeps (fun b => h2.size ≤ b ∧ b < h3.size ∨ (¬ tyAt h3 b t_uint8 ∧ ¬ tyAt h3 b t_sl_uint8)) h3 h' ∧ Keeps (fun b => b < base) h h' ∧ ∃ vs, Rows false h' base vo vs (appI out x i) ∧ ∀ j y b, j < out.length → vs[j]? = some y → y.ownBlock = some b → (b < h2.size ∧ tyAt h3 b t_uint8) ∨ h3.size ≤ b) (fun i => x.length - i) 0 (fun _ => rfl)
      ⟨rfl, rfl, rfl, rfl, rfl, rfl, rfl, trivial⟩ ⟨by omega, Keeps.refl _ _, Y3, vs0, by rw [appI_zero]; exact Ro3, fun j y b hj e1 e2 => .inl ⟨by have := (Ro.lt hj e1 rfl e2).2; omega, (Ro3.ob hj e1).ty e2⟩⟩ ?_
    rintro i h4 ⟨hi, K4, Y4, vs, R4, hb4⟩
    have Ox4 := Ox.keep K4 (fun b q => .inl (Ox.1.blk q))
    have hsz4 := K4.size
    refine WC.seq (WC.region ?_)
    refine WR.s rfl rfl (WR.nil ?_)
    refine WC.seq ?_
    have hal := appI_len out x i
    refine WC.itep rfl (fun e2 => ?_) (fun e2 => ?_)
    · have hi' : i < x.length := by omega
      have hio : i < out.length := by omega
      obtain ⟨u, hu⟩ : ∃ u, vs[i]? = some u := ⟨_, List.getElem?_eq_getElem (by rw [R4.vlen, hal]; exact hio)⟩
      have Bo4 := Bo3.keep K4 (.inr ⟨fun q => absurd (Bo3.ty.inj q) (by decide), fun q => absurd (Bo3.ty.inj q) (by decide)⟩)
      have Ou := R4.ob (by omega) hu
      rw [appI_get hio] at Ou
      have hlo := hol _ (List.getElem_mem hio)
      have hvs : vs.length = out.length := by rw [R4.vlen, hal]
      have Rown : Own h4 base t_sl_uint8 1 vo out.length vs := by have := R4.own; rwa [hal] at this
      have ou1 : oneCell u = true := Ou.1.one
      refine WC.skip ?_
      refine WC.seq (WC.block ?_)
      refine WC.seq (WC.region ?_)
      refine WR.s rfl rfl ?_
      refine WR.v (RunsV.ix (Ox4.1.has (by omega)) i hi' rfl rfl rfl) rfl ?_
      refine WR.v (RunsV.ldO Ox4.1 (by omega) rfl rfl (bcells_get hi')) rfl ?_
      iterate 2 refine WR.sL rfl rfl ?_
      refine WR.nil ?_
      refine WC.drawF 10 [(1,0),(0,1),(1,2),(0,3),(0,4),(1,5),(0,6),(2,7),(2,8),(0,9),(3,10)] (fun h' => Box h' bo t_sl_sl_uint8 vo ∧ Own h' base t_sl_uint8 1 vo out.length vs) (by decide +kernel) (fun _ _ _ _ _ _ q => q) ⟨Bo4, Rown⟩ ?_
      refine WF.q rfl (fun h' q => RunsV.ldB q.1 rfl) rfl ?_
      refine WF.s rfl rfl rfl ?_
      refine WF.q rfl (fun h' q => RunsV.ldB q.1 rfl) rfl ?_
      refine WF.s rfl rfl rfl ?_
      refine WF.v rfl (fun _ => RunsV.ix (Rown.has (by omega)) i hio rfl rfl rfl) rfl ?_
      refine WF.q rfl (fun h' q => RunsV.ldO q.2 (by omega) rfl rfl hu) rfl ?_
      refine WF.s rfl rfl rfl ?_
      refine WF.ef true rfl (Runs.bs1 rfl (e := vB x[i]) rfl rfl) rfl (fun _ q v h' z => by rw [z.2]; exact ⟨q.1.ext ((Ext.refl _).push _), q.2.ext ((Ext.refl _).push _)⟩) ?_
      rintro _ h5 ⟨rfl, e5⟩
      have X45 : Ext h4 h5 := by rw [e5]; exact (Ext.refl _).push _
      have Ou5 := Ou.ext X45
      have Q5 : Sl (fun b => b = h4.size) h5 1 (.slice (some ⟨h4.size, 0, none⟩) 1 1) 1 [vB x[i]] := by rw [e5]; exact Sl.one
      have hbs : base ≤ h5.size := by have := X45.size; omega
      refine WF.ef true rfl (Runs.ap Ou5.1 hbs Q5 rfl rfl rfl (by omega) (by intro z hz; simp at hz; subst hz; rfl) (by omega) (by omega)) rfl
        (fun _ q v h' z => ⟨q.1.keep z.2.1 (fun w => absurd ((Ou5.ty w).inj ((Bo4.ext X45).ty)) (by decide)), q.2.keep z.2.1 (fun b w w2 => absurd ((Ou5.ty w2).inj ((Rown.ext X45).ty w)) (by decide))⟩) ?_
      rintro u' h6 ⟨O6, K6, G6⟩
      have Rown6 : Own h6 base t_sl_uint8 1 vo out.length vs := (Rown.ext X45).keep K6 (fun b w w2 => absurd ((Ou5.ty w2).inj ((Rown.ext X45).ty w)) (by decide))
      refine WF.v rfl (fun _ => RunsV.ix (Rown6.has (by omega)) i hio rfl rfl rfl) rfl ?_
      refine WF.u rfl (RunsU.stO Rown6 hio rfl rfl O6.one) ?_
      rintro h7 ⟨O7, g, hg, hg2, hgv, U7⟩
      refine WF.nil ?_
      have R5 := R4.keep X45 (fun _ _ _ => trivial)
      have hnew : Rows false h7 base vo (vs.set i u') (appI out x (i + 1)) := by
        have := R5.app (i := i) (by omega) hu (x := x[i]) hbs (by rw [appI_get hio]; exact O6) (by rw [appI_get hio]; omega) K6 G6 (by rw [hal]; exact O7) hgv U7
        rw [appI_get hio, show x[i] = x.getD i 0 from (cf_lt hi').symm, appI_succ hio] at this
        exact this
      have tg : tyAt h3 g t_sl_uint8 ∨ h3.size ≤ g := by
        rcases Nat.lt_or_ge g h3.size with z | z
        · left; exact Ro3.own.ty hgv
        · exact .inr z
      have tu := fun b (w : u.ownBlock = some b) => hb4 i u b hio hu w
      have hgb : base ≤ g := hg
      have tub : ∀ b, u.ownBlock = some b → base ≤ b := fun b w => (Ou.1.blk w).1
      have hsz5 := X45.size
      have hsz6 := K6.size
      refine WC.region ?_
      refine WR.v (RunsV.add rfl rfl (by omega)) rfl ?_
      refine WR.sL rfl rfl (WR.nil ?_)
      refine ⟨i + 1, ⟨rfl, rfl, rfl, rfl, rfl, rfl, rfl, trivial⟩, ⟨hi', ?_, ?_, vs.set i u', hnew, ?_⟩, by dsimp only; omega⟩
      · refine ⟨by have := U7.1; omega, fun b hb q => ?_⟩
        have n1 : u.ownBlock ≠ some b := fun w => by
          rcases tu b w with z | z
          · rcases q with q | q
            · omega
            · exact q.1 z.2
          · omega
        have n2 : b ≠ g := fun w => by
          subst w
          rcases tg with z | z
          · rcases q with q | q
            · have := (Ro.own.blk hgv).2; omega
            · exact q.2 z
          · omega
        rw [U7.2 b n2, K6.blk b (by omega) n1, X45.blk b (by omega) trivial, K4.blk b hb q]
      · refine ⟨by have := Y4.size; have := U7.1; omega, fun b hb q => ?_⟩
        have := Y4.size
        have n1 : u.ownBlock ≠ some b := fun w => by have := tub b w; omega
        have n2 : b ≠ g := by omega
        rw [U7.2 b n2, K6.blk b (by omega) n1, X45.blk b (by omega) trivial, Y4.blk b hb q]
      · intro j y' b hj e1 e2'
        by_cases c : i = j
        · subst c
          have : y' = u' := by
            have : (vs.set i u')[i]? = some u' := by simp [hvs, hj]
            rw [this] at e1
            exact (Option.some.inj e1).symm
          subst this
          rcases G6 with z | ⟨b', z, z2⟩
          · exact tu b (z ▸ e2')
          · right
            rw [z] at e2'
            have := Option.some.inj e2'
            omega
        · rw [List.getElem?_set_ne c] at e1
          exact hb4 j y' b hj e1 e2'
    · refine WC.exit (exit_hit ?_)
      obtain rfl : i = x.length := by omega
      have ty34 : ∀ {b : Nat} {T : TypeId} {u : Value}, Box h3 b T u → T ≠ t_uint8 → T ≠ t_sl_uint8 → Box h4 b T u := fun B n1 n2 => B.keep K4 (.inr ⟨fun q => n1 (B.ty.inj q), fun q => n2 (B.ty.inj q)⟩)
      obtain ⟨vwr, Bw, Owr⟩ := s.w
      have Owr4 : OI t_int h4 b1 vwr wr := by
        have o3 : OI t_int h3 b1 vwr wr := (Owr.of X2 (by decide)).ext X3
        exact ⟨o3.1.keep K4 fun b w => .inr ⟨fun q => absurd ((o3.1.ty w).inj q) (by decide), fun q => absurd ((o3.1.ty w).inj q) (by decide)⟩, o3.2⟩
      have Oy4 : OI t_int h4 h2.size vy y := ⟨Oy.1.keep K4 fun b w => .inr ⟨fun q => absurd ((Oy.1.ty w).inj q) (by decide), fun q => absurd ((Oy.1.ty w).inj q) (by decide)⟩, Oy.2⟩
      have lift : ∀ {b : Nat} {T : TypeId} {u : Value}, Box h b T u → T ≠ t_bool → T ≠ t_uint8 → T ≠ t_sl_uint8 → Box h4 b T u := fun B n0 n1 n2 => ty34 ((B.of X2 n0).ext X3) n1 n2
      have Bw4 := lift Bw (by decide) (by decide) (by decide)
      have Om4 : Own h4 base t_bool 1 vm (has.map (!·)).length (tcells (has.map (!·))) := by
        have o3 := Om2.ext X3
        rw [← hmm] at o3
        exact o3.keep K4 fun b w => .inr ⟨fun q => absurd ((o3.ty w).inj q) (by decide), fun q => absurd ((o3.ty w).inj q) (by decide)⟩
      refine WC.seq (WC.region ?_)
      refine WR.v (RunsV.ldB Bw4 rfl) rfl ?_
      refine WR.s rfl rfl ?_
      refine WR.stepT (Runs.apI Owr4 (Nat.le_trans l5 Y4.size) Oy4.ints rfl rfl rfl (by omega) (by omega) (by omega)) rfl ?_
      rintro vwr' h5 ⟨Ow5, K5, G5⟩
      have C5 : Chg t_int h4 h5 := Owr4.1.chg K5
      have n5 : ∀ b, b < b1 → vwr.ownBlock ≠ some b := fun b hb w => by have := (Owr4.1.blk w).1; omega
      have Bw5 := Bw4.of C5 (by decide)
      refine WR.stepU (RunsU.stB Bw5 rfl rfl Ow5.1.one) ?_
      rintro h6 ⟨Bw6, U6⟩
      refine WR.nil ?_
      refine WC.seq (WC.region ?_)
      refine WR.s rfl rfl ?_
      refine WR.sL rfl rfl (WR.nil ?_)
      have C6 : Chg t_sl_int h5 h6 := U6.chg Bw5.ty
      have fin : ∀ {b : Nat} {T : TypeId} {u : Value}, Box h b T u → T ≠ t_bool → T ≠ t_uint8 → T ≠ t_sl_uint8 → T ≠ t_int → T ≠ t_sl_int → Box h6 b T u := fun B n0 n1 n2 n3 n4 => ((lift B n0 n1 n2).of C5 n3).of C6 n4
      have finI : ∀ {b : Nat} {u : Value}, Box h b t_int u → b < b1 → Box h6 b t_int u := fun B hb => ((lift B (by decide) (by decide) (by decide)).keep K5 (n5 _ hb)).of C6 (by decide)
      have hY := Y4.size
      have h56 := K5.size
      refine WC.ret ⟨_, rfl, rfl, ⟨finI s.k l1, finI s.m l2, fin s.hs (by decide) (by decide) (by decide) (by decide) (by decide), fin s.sh (by decide) (by decide) (by decide) (by decide) (by decide), fin s.f (by decide) (by decide) (by decide) (by decide) (by decide),
        ⟨vm, fin Bm (by decide) (by decide) (by decide) (by decide) (by decide), (Om4.of C5 (by decide)).of C6 (by decide)⟩, ⟨vo, vs, fin Bo (by decide) (by decide) (by decide) (by decide) (by decide), (R4.of C5 (by decide) (by decide)).of C6 (by decide) (by decide)⟩, ⟨vwr', Bw6, Ow5.of C6 (by decide)⟩, l1, l2, l3, l4, by have := U6.1; omega⟩, ?_⟩
      refine ⟨by have := U6.1; omega, fun b hb q => ?_⟩
      have q' : b < base := q
      rw [U6.2 b (by omega), K5.blk b (by omega) (n5 b (by omega)), Y4.blk b hb q]
end Go.Eng
namespace Go.Eng
/-- Shards put right, and which were wrong, of so many places. -/
def shI (k m : Nat) (has : List Bool) (ll : List (List UInt8)) : Nat → Option (List (List UInt8) × List Int)
  | 0 => some (List.replicate (k + m) [], [])
  | n + 1 => match shI k m has ll n with
    | none => none
    | some r => match wordP k m (wordAt has ll n (k + m)) (has.map (!·)) with
      | none => none
      | some q => some (appI r.1 q.1 q.1.length, r.2 ++ q.2)
theorem shI_len {k m : Nat} {has : List Bool} {ll : List (List UInt8)} (hh : has.length = k + m) : ∀ n r, shI k m has ll n = some r → r.1.length = k + m ∧ (∀ l ∈ r.1, l.length ≤ n) ∧ r.2.length ≤ n * (k + m)
  | 0, r, h => by
    simp [shI] at h; subst h
    simp
  | n + 1, r, h => by
    rw [shI] at h
    split at h
    · cases h
    · rename_i r' h'
      have ih := shI_len hh n r' h'
      split at h
      · cases h
      · rename_i q hq
        cases h
        have hp := wordP_len hq
        refine ⟨by rw [appI_len]; exact ih.1, fun l hl => ?_, by rw [List.length_append, Nat.succ_mul]; have := ih.2.2; omega⟩
        obtain ⟨i, hi, rfl⟩ := List.getElem_of_mem hl
        rw [appI_len] at hi
        have := ih.2.1 _ (List.getElem_mem hi)
        simp only [appI, List.getElem_mapIdx]
        split
        · simp; omega
        · omega
theorem Shd.keepB {S : Nat → Prop} {h h' : Heap} {base b1 bk bm bh bi bs bf bo bw f k m : Nat} {hv sv : Value} {ms : List Bool} {out : List (List UInt8)} {wr : List Int} (s : Shd h base b1 bk bm bh bi bs bf bo bw f k m hv sv ms out wr) (x : Keeps S h h') (q : ∀ b, S b) : Shd h' base b1 bk bm bh bi bs bf bo bw f k m hv sv ms out wr :=
  s.ext (x.mono fun b _ _ => q b)
theorem errdec_Shards_spec {S T U : Nat → Prop} {h : Heap} {f : Nat} (F : Fld S h f) (hS : ∀ i, S i → i < h.size) (k m : Int) {hv sv : Value} {has : List Bool} {ll : List (List UInt8)} (M : Bools T h hv has) (D : BytesL U h sv ll) (hsz : sizeP k.toNat m.toNat has ll ≤ 1000000) :
    Spec PP f_errdec_Shards #[ptr f, vI k, vI m, hv, sv] h (fun v h' => Ext h h' ∧
      ((chk k m ≠ 0 ∧ v = .tuple #[.slice none 0 0, .slice none 0 0, vI (chk k m)]) ∨
       (chk k m = 0 ∧ sizeP k.toNat m.toNat has ll < 0 ∧ v = .tuple #[.slice none 0 0, .slice none 0 0, vI 60]) ∨
       (chk k m = 0 ∧ 0 ≤ sizeP k.toNat m.toNat has ll ∧ match shI k.toNat m.toNat has ll (sizeP k.toNat m.toNat has ll).toNat with
         | none => v = .tuple #[.slice none 0 0, .slice none 0 0, vI 100]
         | some r => ∃ x vs y, v = .tuple #[x, y, vI 0] ∧ Rows false h' h.size x vs r.1 ∧ OI t_int h' h.size y (Lib.compact (r.2.mergeSort fun x y => decide (x ≤ y)))))) := by
  have hv1 : oneCell hv = true := by obtain ⟨A, cap, rfl⟩ := Sl.form M; rfl
  have sv1 : oneCell sv = true := by obtain ⟨vs, q, _⟩ := D; obtain ⟨A, cap, rfl⟩ := q.form; rfl
  refine Spec.body (C := c_errdec_Shards) [(0, ptr f), (1, vI k), (2, vI m), (3, hv), (4, sv)] h_errdec_Shards rfl rfl rfl ⟨rfl, rfl, rfl, rfl, rfl, trivial⟩ rfl ?_
  refine WC.seq (WC.region ?_)
  refine WR.stepL (Runs.bx rfl rfl) rfl ?_
  rintro _ h1 ⟨bf, rfl, hbf, Bf, X1⟩
  refine WR.stepL (Runs.bx rfl rfl) rfl ?_
  rintro _ h2 ⟨bk, rfl, hbk, Bk, X2⟩
  refine WR.stepL (Runs.bx rfl rfl) rfl ?_
  rintro _ h3 ⟨bm, rfl, hbm, Bm, X3⟩
  refine WR.stepL (Runs.bx rfl hv1) rfl ?_
  rintro _ h4 ⟨bh, rfl, hbh, Bh, X4⟩
  refine WR.stepL (Runs.bx rfl sv1) rfl ?_
  rintro _ h5 ⟨bs, rfl, hbs, Bs, X5⟩
  have X25 : Ext h2 h5 := (X3.trans X4).trans X5
  have X05 : Ext h h5 := (X1.trans X2).trans X25
  have Bf5 := (Bf.ext X2).ext X25
  have Bk5 := Bk.ext X25
  have Bm5 := (Bm.ext X4).ext X5
  have Bh5 := Bh.ext X5
  iterate 3 refine WR.sL rfl rfl ?_
  refine WR.nil ?_
  refine WC.scope ?_
  refine WC.seq (WC.seq (WC.region ?_))
  refine WR.v (RunsV.ldB Bf5 rfl) rfl ?_
  refine WR.v (RunsV.eqNil rfl rfl) rfl (WR.nil ?_)
  refine WC.f rfl (WC.skip ?_)
  refine WC.seq (WC.seq (WC.region ?_))
  refine WR.v (RunsV.ldB Bk5 rfl) rfl ?_
  refine WR.v (RunsV.ldB Bm5 rfl) rfl ?_
  refine WR.callT (cauchy_Check_spec k m) rfl rfl rfl ?_
  rintro _ h5 ⟨rfl, rfl⟩
  refine WR.sL rfl rfl (WR.nil ?_)
  refine WC.seq (WC.region ?_)
  iterate 2 refine WR.s rfl rfl ?_
  refine WR.nil ?_
  refine WC.itep rfl (fun e => ?_) (fun e => ?_)
  · refine WC.seq (WC.region ?_)
    refine WR.s rfl rfl ?_
    iterate 3 refine WR.sL rfl rfl ?_
    exact WR.nil (WC.ret ⟨_, rfl, X05, .inl ⟨e, rfl⟩⟩)
  · have e0 : chk k m = 0 := by simpa using e
    have hkm := chk_ok e0
    obtain ⟨kk, rfl⟩ : ∃ kk : Nat, k = kk := ⟨k.toNat, by omega⟩
    obtain ⟨mm, rfl⟩ : ∃ mm : Nat, m = mm := ⟨m.toNat, by omega⟩
    simp only [Int.toNat_natCast] at hsz ⊢
    refine WC.skip ?_
    refine WC.seq (WC.region ?_)
    refine WR.v (RunsV.ldB Bk5 rfl) rfl ?_
    refine WR.v (RunsV.ldB Bm5 rfl) rfl ?_
    refine WR.v (RunsV.ldB Bh5 rfl) rfl ?_
    refine WR.v (RunsV.ldB Bs rfl) rfl ?_
    refine WR.callT (errdec_size_spec kk mm (by omega) (Sl.ext M X05) (D.ext X05)) rfl rfl rfl ?_
    rintro _ h5 ⟨rfl, rfl⟩
    refine WR.sL rfl rfl (WR.nil ?_)
    refine WC.seq (WC.seq (WC.region ?_))
    iterate 2 refine WR.s rfl rfl ?_
    refine WR.nil ?_
    refine WC.itep rfl (fun e2 => ?_) (fun e2 => ?_)
    · refine WC.seq (WC.region ?_)
      iterate 3 refine WR.sL rfl rfl ?_
      exact WR.nil (WC.ret ⟨_, rfl, X05, .inr (.inl ⟨e0, e2, rfl⟩)⟩)
    · obtain ⟨hl1, hl2, hl3⟩ := sizeP_spec (k := kk) (m := mm) (has := has) (ll := ll) (by omega)
      obtain ⟨N, hN⟩ : ∃ N : Nat, sizeP kk mm has ll = N := ⟨(sizeP kk mm has ll).toNat, by omega⟩
      rw [hN] at hsz hl3 e2 ⊢
      simp only [Int.toNat_natCast]
      refine WC.skip ?_
      refine WC.seq (WC.region ?_)
      refine WR.v (RunsV.ldB Bk5 rfl) rfl ?_
      refine WR.v (RunsV.ldB Bm5 rfl) rfl ?_
      refine WR.v (RunsV.to (v' := vI ((kk + mm : Nat))) (RunsV.add rfl rfl (by omega)) (by simp)) rfl ?_
      refine WR.stepT (Runs.mk rfl (kk + mm) rfl rfl (by omega) (by omega)) rfl ?_
      rintro vo h6 ⟨O6, hvo, X6⟩
      refine WR.stepL (Runs.al rfl) rfl ?_
      rintro _ h7 ⟨bo, rfl, hbo, Bo, X7⟩
      refine WR.stepU (RunsU.stB Bo rfl rfl O6.one) ?_
      rintro h8 ⟨Bo8, U8⟩
      have X68 : Ext h6 h8 := X7.upd U8 (.inl hbo)
      have O8 := O6.ext X68
      refine WR.nil ?_
      refine WC.seq (WC.region ?_)
      refine WR.stepL (Runs.al rfl) rfl ?_
      rintro _ h9 ⟨bw, rfl, hbw, Bw, X9⟩
      refine WR.nil ?_
      have X59 : Ext h5 h9 := (X6.trans X68).trans X9
      refine WC.seq (WC.region ?_)
      refine WR.v (RunsV.ldB (Bk5.ext X59) rfl) rfl ?_
      refine WR.v (RunsV.ldB (Bm5.ext X59) rfl) rfl ?_
      refine WR.v (RunsV.to (v' := vI ((kk + mm : Nat))) (RunsV.add rfl rfl (by omega)) (by simp)) rfl ?_
      refine WR.stepT (Runs.mk rfl (kk + mm) rfl rfl (by omega) (by omega)) rfl ?_
      rintro vm hA ⟨OA, hvm, XA⟩
      refine WR.stepL (Runs.al rfl) rfl ?_
      rintro _ hB ⟨bi, rfl, hbi, Bi, XB⟩
      refine WR.stepU (RunsU.stB Bi rfl rfl OA.one) ?_
      rintro hC ⟨BiC, UC⟩
      have XAC : Ext hA hC := XB.upd UC (.inl hbi)
      have X9C : Ext h9 hC := XA.trans XAC
      have X5C : Ext h5 hC := X59.trans X9C
      have X0C : Ext h hC := X05.trans X5C
      have z1 := X05.size
      have z2 := X6.size
      have z3 := X68.size
      have z4 := X9.size
      have z5 := XA.size
      have z6 := XAC.size
      have z7 := Bk5.lt
      have z8 := Bm5.lt
      have hS0 : Shd hC h.size hC.size bk bm bh bi bs bf bo bw f kk mm hv sv (List.replicate (kk + mm) false) (List.replicate (kk + mm) []) [] := by
        refine ⟨Bk5.ext X5C, Bm5.ext X5C, Bh5.ext X5C, Bs.ext X5C, Bf5.ext X5C, ⟨vm, BiC, ?_⟩, ⟨vo, List.replicate (kk + mm) (.slice none 0 0), (Bo8.ext X9).ext X9C, ?_⟩, ⟨_, Bw.ext X9C, OI.nil _ _ _⟩, by omega⟩
        · have := (OA.ext XAC).rebase (base' := h.size) (by omega)
          rw [List.length_replicate, ← tcells_rep]
          exact this
        · exact Rows.nils (((O8.ext X9).ext X9C).rebase (by omega)) (by omega)
      clear OA O8 O6 Bo Bo8 Bi BiC Bw UC U8 XB X7 XA XAC X9 X68 X6
      refine WR.nil ?_
      refine WC.seq (WC.region ?_)
      refine WR.s rfl rfl ?_
      refine WR.sL rfl rfl (WR.nil ?_)
      refine WC.seq (WC.region ?_)
      refine WR.sL rfl rfl (WR.nil ?_)
      refine WC.seq (WC.label ?_)
      have M0 : Bools (fun i => i < h.size) h hv has := Sl.mono M (fun b hb _ => hb) (by omega)
      have D0 : BytesL (fun i => i < h.size) h sv ll := D.mono fun b hb _ => hb
      refine WC.cut (σ := Option (List (List UInt8) × List Int)) (fun r => [(15, ptr bo), (16, ptr bw), (19, vI (match r with | none => 100 | some _ => 0))])
        (fun r h' => Ext h h' ∧ r = shI kk mm has ll N ∧ ∀ q, r = some q → ∃ ms, Shd h' h.size hC.size bk bm bh bi bs bf bo bw f kk mm hv sv ms q.1 q.2) (fun _ => rfl) ?_ ?_
      · refine WC.seq (WC.region ?_)
        iterate 2 refine WR.sL rfl rfl ?_
        refine WR.nil ?_
        refine WC.block ?_
        refine WC.loop (σ := Nat) (fun n => [(15, ptr bo), (16, ptr bw), (18, .func (.func f_errdec_Shards_1) #[] #[ptr bk, ptr bm, ptr bh, ptr bi, ptr bs, ptr bf, ptr bo, ptr bw]), (19, vI 0), (45, vI N), (46, vI n)])
          (fun n h' => n ≤ N ∧ Ext h h' ∧ ∃ r ms, shI kk mm has ll n = some r ∧ ms.length = kk + mm ∧ Shd h' h.size hC.size bk bm bh bi bs bf bo bw f kk mm hv sv ms r.1 r.2) (fun n => N - n) 0 (fun _ => rfl)
          ⟨rfl, rfl, rfl, rfl, rfl, rfl, trivial⟩ ⟨by omega, X0C, _, _, rfl, by simp, hS0⟩ ?_
        rintro n k1 ⟨hn, Xk, r, ms, hr, hms, Sh⟩
        refine WC.seq (WC.region ?_)
        refine WR.s rfl rfl (WR.nil ?_)
        refine WC.seq ?_
        refine WC.itep rfl (fun e3 => ?_) (fun e3 => ?_)
        · have hn' : n < N := by omega
          obtain ⟨r1, r2, r3⟩ := shI_len hl1 n r hr
          have hnk : n * (kk + mm) ≤ 1000000 * 256 := Nat.mul_le_mul (by omega) (by omega)
          refine WC.skip ?_
          refine WC.seq (WC.block ?_)
          refine WC.seq (WC.region ?_)
          refine WR.s rfl rfl ?_
          refine WR.sL rfl rfl (WR.nil ?_)
          refine WC.seq (WC.region ?_)
          iterate 2 refine WR.s rfl rfl ?_
          refine WR.callC (errdec_Shards_1_spec n (F.ext Xk) hS (Sl.ext M0 Xk) (fun i q => q) (D0.ext Xk) (fun i q => q) Sh (by omega) (by omega) hl1 hl2 hms r1 (fun j hj hb => by have := hl3 j hj hb; omega) (by omega) (fun l hl => by have := r2 l hl; omega) (by omega)) rfl rfl rfl rfl ?_
          rintro _ k2 ⟨rfl, Sh2, Y2⟩
          have Xk2 : Ext h k2 := Xk.then Y2 fun i hi _ => hi
          refine WR.sL rfl rfl (WR.nil ?_)
          refine WC.seq (WC.region ?_)
          iterate 2 refine WR.s rfl rfl ?_
          refine WR.nil ?_
          have hstep : shI kk mm has ll (n + 1) = match wordP kk mm (wordAt has ll n (kk + mm)) (has.map (!·)) with
            | none => none
            | some q => some (appI r.1 q.1 q.1.length, r.2 ++ q.2) := by rw [shI, hr]
          unfold wordR at Sh2 ⊢
          cases hw : wordP kk mm (wordAt has ll n (kk + mm)) (has.map (!·)) with
          | none =>
            rw [hw] at hstep
            refine WC.t rfl ?_
            refine WC.exit (exit_miss (by decide) (exit_hit ?_))
            refine ⟨none, ⟨rfl, rfl, rfl, trivial⟩, Xk2, ?_, fun q e => (nomatch e)⟩
            have : ∀ j, shI kk mm has ll (n + 1 + j) = none := fun j => by
              induction j with
              | zero => exact hstep
              | succ j ih => rw [← Nat.add_assoc, shI, ih]
            have := this (N - (n + 1))
            rw [show n + 1 + (N - (n + 1)) = N by omega] at this
            exact this.symm
          | some q =>
            rw [hw] at hstep Sh2
            refine WC.f rfl (WC.skip ?_)
            refine WC.region ?_
            refine WR.v (RunsV.add rfl rfl (by omega)) rfl ?_
            refine WR.sL rfl rfl (WR.nil ?_)
            exact ⟨n + 1, ⟨rfl, rfl, rfl, rfl, rfl, rfl, trivial⟩, ⟨hn', Xk2, _, _, hstep, by simp; omega, Sh2⟩, by dsimp only; omega⟩
        · refine WC.exit (exit_hit ?_)
          obtain rfl : n = N := by omega
          exact ⟨some r, ⟨rfl, rfl, rfl, trivial⟩, Xk, hr.symm, fun q e => by cases e; exact ⟨ms, Sh⟩⟩
      · rintro r k1 ⟨Xk, hr, Sh⟩
        refine WC.seq (WC.seq (WC.region ?_))
        iterate 2 refine WR.s rfl rfl ?_
        refine WR.nil ?_
        cases r with
        | none =>
          refine WC.t rfl ?_
          refine WC.seq (WC.region ?_)
          refine WR.s rfl rfl ?_
          iterate 3 refine WR.sL rfl rfl ?_
          refine WR.nil (WC.ret ⟨_, rfl, Xk, .inr (.inr ⟨e0, by omega, ?_⟩)⟩)
          rw [← hr]; rfl
        | some r =>
          obtain ⟨ms, Sh⟩ := Sh r rfl
          obtain ⟨vwr, Bw, Ow⟩ := Sh.w
          obtain ⟨vo', vs, Bo, Ro⟩ := Sh.o
          obtain ⟨l1, l2, l3, l4, l5⟩ := Sh.lt
          refine WC.f rfl (WC.skip ?_)
          refine WC.seq (WC.region ?_)
          refine WR.v (RunsV.ldB Bw rfl) rfl ?_
          refine WR.callT (sort_lay Ow.1 (by have := Ow.2; omega)) rfl rfl rfl ?_
          rintro _ k2 ⟨rfl, O2, K2⟩
          refine WR.nil ?_
          have C2 : Chg t_int k1 k2 := Ow.1.chg K2
          have Bw2 := Bw.of C2 (by decide)
          have Bo2 := Bo.of C2 (by decide)
          have Ro2 := Ro.of C2 (by decide) (by decide)
          have hlen : (r.2.mergeSort fun x y => decide (x ≤ y)).length = r.2.length := List.length_mergeSort r.2
          refine WC.seq ?_
          refine WC.draw [(false,0),(false,1),(true,2),(false,3),(false,4),(false,5)] (fun h' => Box h' bo t_sl_sl_uint8 vo' ∧ Box h' bw t_sl_int vwr) (by decide +kernel) (fun _ _ _ _ _ _ q => q) ⟨Bo2, Bw2⟩ ?_
          refine WQ.q rfl (fun h' x => RunsV.ldB x.1 rfl) rfl ?_
          refine WQ.q rfl (fun h' x => RunsV.ldB x.2 rfl) rfl ?_
          have O2' : Own k2 hC.size t_int 1 vwr (r.2.mergeSort fun x y => decide (x ≤ y)).length (icells (r.2.mergeSort fun x y => decide (x ≤ y))) := by rw [hlen]; exact O2
          refine WQ.call rfl (compact_lay O2' (by have := Ow.2; omega)) rfl rfl rfl (fun _ x v h' q => by
            obtain ⟨_, _, _, K⟩ := q
            exact ⟨x.1.of (O2'.chg K) (by decide), x.2.of (O2'.chg K) (by decide)⟩) (by omega) ?_
          rintro _ k3 ⟨vc, rfl, O3, K3⟩
          iterate 3 refine WQ.sL rfl rfl rfl ?_
          refine WQ.nil ?_
          have C3 := O2'.chg K3
          have hsk := Xk.size
          have Xk3 : Ext h k3 := Keeps.own (Keeps.own Xk Ow.1 (by omega) K2) O2' (by omega) K3
          refine WC.ret ⟨_, rfl, Xk3, .inr (.inr ⟨e0, by omega, ?_⟩)⟩
          rw [← hr]
          refine ⟨_, vs, _, rfl, Ro2.of C3 (by decide) (by decide), O3.rebase (by omega), ?_⟩
          have := compact_le (r.2.mergeSort fun x y => decide (x ≤ y))
          have := Ow.2
          omega
end Go.Eng
