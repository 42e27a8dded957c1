/- Steps of the proof: lemmas for every input, without conditions but those that each states. -/
import Derived.Test.YtjpgcjbcfodicaaEngA
import Derived.ProofKit
import Derived.SizedLaws
import Derived.JoinedCond
set_option linter.unusedSimpArgs false
set_option linter.unusedVariables false
namespace Go.Eng
open Go.ChangeShapes Go.WideShapes Go.RowKit
section
variable {H : Type} {enc : TypeId × Value → H} {P : Program} {w : World} {base : Nat} {spare : Nat → Bool} {held : Bool}
/-- A row of memory that came in, one cell an element. -/
theorem sl_of {a : Addr} {len cap : Nat} {cs : List Value} (hc : len ≤ cap) (hm : len ≤ 140737488355328) (hcs : cs.length = len) (h : ∀ i, i < len → w.cell? (a.add i) = cs[i]?) : Sl (fun _ => True) w.heap 1 (.slice (some a) len cap) len cs := by
  refine ⟨by omega, hm, some a, cap, rfl, hc, fun q => (nomatch q), fun hn => ?_⟩
  obtain ⟨b, off, spot⟩ := a
  have g0 := h 0 hn
  rw [List.getElem?_eq_getElem (by omega)] at g0
  have hspot : spot = none := by simpa [Addr.add] using World.cell?_spot g0
  subst hspot
  refine ⟨b, off, rfl, trivial, fun j hj => ?_⟩
  have := h j (by omega)
  rw [add_plain, cell_hc] at this
  exact this
theorem sl_nil {w : World} : Sl (fun _ => True) w.heap 1 (.slice none 0 0) 0 [] := ⟨rfl, by omega, none, 0, rfl, Nat.le_refl _, fun _ => rfl, fun q => absurd q (by omega)⟩
theorem open_bytes {r : Reach} {b0 : Nat} {t e : TypeId} {v : Value} {d : DataW H} {ps : List MemPlace} (ht : P.underlying t = some (.slice e)) (he : P.underlying e = some (.int .u8)) (hc : P.cellsOf e = 1) (hval : Value.okWide P w r b0 t v) (hd : DataW.Trod enc P w base spare held t v d ps) (hz : ∀ el sp, d = .slice el sp → el.length ≤ 140737488355328) :
    ∃ l, Bytes (fun _ => True) w.heap v l := by
  obtain ⟨a0, l0, c0, rfl⟩ := okWide_slice ht hval
  obtain ⟨fuel, hf⟩ := hd
  rcases open_ints ht he hc hf with ⟨h1, _⟩ | ⟨a, len, cap, zs, h1, _, hl, hm, hzl, hx, hcell, hwf⟩
  · simp [Value.cells] at h1
    obtain ⟨rfl, rfl, rfl⟩ := h1
    exact ⟨[], sl_nil⟩
  · simp [Value.cells] at h1
    obtain ⟨rfl, rfl, rfl⟩ := h1
    have hlz : l0 ≤ zs.length := by rw [hzl]; split <;> omega
    have hb := hz _ _ (congrArg Prod.fst hx)
    have hl0 : (lits (H := H) .u8 (zs.take l0)).length = l0 := by simp [lits]; omega
    rw [hl0] at hb
    refine ⟨(zs.take l0).map fun z => UInt8.ofNat z.toNat, ?_⟩
    have hlen : ((zs.take l0).map fun z => UInt8.ofNat z.toNat).length = l0 := by simp; omega
    unfold Bytes
    rw [hlen]
    refine sl_of hl hb (by simp [bcells]; omega) fun i hi => ?_
    rw [hcell i (by omega)]
    have hw := hwf zs[i] (List.getElem_mem (by omega))
    have hr : 0 ≤ zs[i] ∧ zs[i] ≤ 255 := by simpa [Lit.wf, IntKind.min, IntKind.max, IntKind.signed, IntKind.bits] using hw
    simp only [bcells, List.getElem?_map, List.getElem?_take, hi, if_true, List.getElem?_eq_getElem (show i < zs.length by omega), Option.map_some, List.getD_eq_getElem?_getD, Option.getD_some]
    congr 1
    show Value.int .u8 zs[i] = Value.int .u8 ((UInt8.ofNat zs[i].toNat).toNat : Int)
    congr 1
    rw [UInt8.toNat_ofNat', Nat.mod_eq_of_lt (by omega)]
    omega
theorem open_bools {r : Reach} {b0 : Nat} {t e : TypeId} {v : Value} {d : DataW H} {ps : List MemPlace} (ht : P.underlying t = some (.slice e)) (he : P.underlying e = some .bool) (hc : P.cellsOf e = 1) (hval : Value.okWide P w r b0 t v) (hd : DataW.Trod enc P w base spare held t v d ps) (hz : ∀ el sp, d = .slice el sp → el.length ≤ 140737488355328) :
    ∃ l, Bools (fun _ => True) w.heap v l := by
  obtain ⟨a0, l0, c0, rfl⟩ := okWide_slice ht hval
  obtain ⟨fuel, hf⟩ := hd
  rcases DataW.trod_slice ht hf with ⟨h1, _⟩ | ⟨a, len, cap, elems, rest, n, _, h1, hx, _, hl, hm, hlen, hel, _, _⟩
  · simp [Value.cells] at h1
    obtain ⟨rfl, rfl, rfl⟩ := h1
    exact ⟨[], sl_nil⟩
  · simp [Value.cells] at h1
    obtain ⟨rfl, rfl, rfl⟩ := h1
    have hb := hz _ _ (congrArg Prod.fst hx)
    rw [List.length_map, hlen] at hb
    have each : ∀ i, i < l0 → ∃ b, w.cell? (a.add i) = some (.bool b) := fun i hi => by
      have := hel i hi
      rw [List.getElem?_eq_getElem (by omega), hc, Nat.mul_one, Option.bind_eq_some_iff] at this
      obtain ⟨cs, h2, h3⟩ := this
      obtain ⟨b, rfl, _⟩ := DataW.trod_bool he h3
      exact ⟨b, cell_of_cells?_one h2⟩
    refine ⟨(List.range l0).map fun i => match w.cell? (a.add i) with | some (.bool b) => b | _ => false, ?_⟩
    unfold Bools
    rw [List.length_map, List.length_range]
    refine sl_of hl hb (by simp [tcells]) fun i hi => ?_
    obtain ⟨b, hb⟩ := each i hi
    rw [hb]
    simp [tcells, hi, hb]
end
/-- What a walk over heaps says of worlds. -/
theorem below_of {w w' : World} (r : w'.os = w.os) (r2 : w'.tape = w.tape) (r3 : w'.output = w.output) (x : Ext w.heap w'.heap) : Below w.heap.size w w' :=
  ⟨r, r2, r3, x.size, fun k hk => x.blk k hk trivial⟩
/-- The row's post where nothing that was there has turned. -/
theorem post_of_below {H : Type} {enc : TypeId × Value → H} {P : Program} {f : Func} {s : ChangeSpec} {apart fresh handsOn again : Bool} {W W' : World} {args : Array Value} {v : Value} {ds gs : List (DataW H)} {before pa pv : List MemPlace}
    (hW : DataW.Whole enc P f.params.toList s.vars apart W args.toList ds gs before) (hB : Below W.heap.size W W')
    (hres : ∀ (b : Nat) (sp : Nat → Bool) (hd : Bool), DataW.TrodAll enc P W' b sp hd f.resultTypes.toList (v.resultList f.resultTypes.size) (s.fn H (ds ++ gs)).results [])
    (hargs : DataW.TrodAll enc P W' 0 (fun b => decide (b < W.heap.size)) true f.params.toList args.toList (s.fn H (ds ++ gs)).args pa)
    (hargs2 : DataW.TrodAll enc P W' 0 (fun _ => true) true f.params.toList args.toList (s.fn H (ds ++ gs)).args pa)
    (hvars : ∀ sp : Nat → Bool, DataW.TrodVars enc P W' sp s.vars (s.fn H (ds ++ gs)).vars pv)
    (hps : before = pa ++ pv)
    (hok : ∀ (j : Nat) (t : TypeId) (r : Value), f.resultTypes[j]? = some t → (v.resultList f.resultTypes.size)[j]? = some r → Value.okWide P W' .any 0 t r) :
    s.post enc P f apart fresh handsOn again W args v W' := by
  refine ⟨ds, gs, before, [], pa, pv, hW, hres _ _ _, hargs, hvars _, hB.frame _, fun _ => ?_⟩
  have hlt := hW.lt
  obtain ⟨_, _, _, _, _, hz, hn⟩ := hW
  refine ⟨hok, _, _, ([] ++ pa) ++ pv, ⟨[] ++ pa, pv, trodAll_append hargs2 (hres _ _ _), hvars _, rfl, ?_, ?_⟩, ?_⟩
  · intro b off hp
    have hp' : MemPlace.cell b off ∈ before := by rw [hps]; simpa using hp
    rw [hB.frozen (p := ⟨b, off, none⟩) (hlt _ hp')]
    exact hz b off hp'
  · intro ha
    have := hn ha
    rw [hps] at this
    simpa using this
  · intro p hp _
    rw [hps]
    simpa using hp
end Go.Eng
