/- Steps of the proof: lemmas for every input, without conditions but those that each states. -/
import Derived.Test.YtjpgcjbcfodicaaEngA
import Derived.Maps.AppendAt
import Derived.Great.BuildSlice
set_option linter.unusedSimpArgs false
set_option linter.unusedVariables false
namespace Go.Eng
section
variable {C : Ctx} {K : K3} {tm lo : Env} {h : Heap} {ops : Array Oper} {r : List Oper} {op : Op} {ty : TypeId} {pos : String} {af : Array Edge}

def oneCell : Value → Bool
  | .agg _ | .tuple _ => false
  | _ => true
theorem oneCell_cells {u : Value} (h1 : oneCell u = true) : u.cells = #[u] := by cases u <;> simp [oneCell] at h1 <;> rfl

/-- All other blocks are as they were, and none is new. -/
def Upd (b : Nat) (h h' : Heap) : Prop := h'.size = h.size ∧ ∀ i, i ≠ b → h'[i]? = h[i]?
theorem Keeps.upd {S : Nat → Prop} {a : Heap} {b : Nat} {h' : Heap} (x : Keeps S a h) (u : Upd b h h') (hb : a.size ≤ b ∨ ¬ S b) : Keeps S a h' :=
  ⟨by rw [u.1]; exact x.size, fun j hj s => by
    have : j ≠ b := by rintro rfl; rcases hb with q | q; omega; exact q s
    rw [u.2 j this]; exact x.blk j hj s⟩

/-- A store to a cell of a whole block. -/
theorem RunsU.st {T : TypeId} {d : TypeDesc} [u : Und C.P T d] {z : Value} {bytes : Nat} [i : Inf C.P T z 1 bytes] {x y : Operand} {b o : Nat} {v : Value} {cs : Array Value} {B : TypeId}
    (hx : opv tm lo x = some (.pointer (some ⟨b, o, none⟩))) (hy : opv tm lo y = some v) (hb : h[b]? = some (.cells cs B (0, 0))) (ho : o < cs.size) (h1 : oneCell v = true) :
    RunsU C tm lo h (.store T x y) (fun h' => h'[b]? = some (.cells (cs.setIfInBounds o v) B (0, 0)) ∧ Upd b h h') := fun c w F hh _ _ _ _ _ => by
  subst hh
  obtain ⟨info, hi, hi1, hi2, hi3⟩ := i.parts
  have hcl := oneCell_cells h1
  have hlt : b < w.heap.size := (Array.getElem?_eq_some_iff.1 hb).1
  have hcell : w.cell? ⟨b, o, none⟩ = some cs[o] := by rw [cell_hc]; simp [hc, hb, ho]
  have hfz : w.frozen? ⟨b, o, none⟩ = false := by simp [World.frozen?, hb]
  have h1' : v.oneCell' = true := by cases v <;> simp_all [oneCell, Value.oneCell']
  refine ⟨w.setCell ⟨b, o, none⟩ v, ?_, ⟨rfl, rfl, rfl⟩, ?_, ?_, ?_⟩
  · simp [execOp, F.eval hx, F.eval hy, Instr.storeAt, Instr.sureAddr, storeVar, sizeOf, typeInfo, hi, hi2, hcl, storeCells, add_plain, run_store _ _ _ _ _ h1', hcell, hfz]
  · simp only [World.setCell, Array.getElem?_modify, if_true, hb, Option.map_some, Option.isSome_none, Bool.false_eq_true, if_false]
  · simp [World.setCell]
  · intro j hj
    simp [World.setCell, Array.getElem?_modify, Ne.symm hj]

/-- A store to an own row's cell. -/
theorem RunsU.stO {base B n : Nat} {v : Value} {xs : List Value} (O : Own h base B 1 v n xs) {j : Nat} (hj : j < n) {T : TypeId} {d : TypeDesc} [u : Und C.P T d] {z : Value} {bytes : Nat} [i : Inf C.P T z 1 bytes] {x y : Operand} {e : Value}
    (hx : opv tm lo x = some (eptr v j)) (hy : opv tm lo y = some e) (h1 : oneCell e = true) :
    RunsU C tm lo h (.store T x y) (fun h' => Own h' base B 1 v n (xs.set j e) ∧ ∃ g, base ≤ g ∧ g < h.size ∧ v.ownBlock = some g ∧ Upd g h h') := by
  rcases O with ⟨hl, ⟨_, rfl⟩ | ⟨g, cap, cur, rfl, hbg, hg, hn, hcm, hs, ht⟩⟩
  · omega
  · have hp : eptr (.slice (some ⟨g, 0, none⟩) n cap) j = .pointer (some ⟨g, j, none⟩) := by simp [eptr, add_plain]
    rw [hp] at hx
    have hlt : g < h.size := (Array.getElem?_eq_some_iff.1 hg).1
    intro c w F hh dst ty pos af gd
    obtain ⟨w', r1, r2, r3, r4⟩ := RunsU.st (C := C) (tm := tm) (lo := lo) (T := T) hx hy hg (by omega) h1 c w F hh dst ty pos af gd
    refine ⟨w', r1, r2, ⟨by simp [hl], .inr ⟨g, cap, _, rfl, hbg, r3, hn, hcm, by simp [hs], ?_⟩⟩, g, hbg, hlt, rfl, r4⟩
    subst ht
    simp [List.take_set]

/-- A new variable. -/
theorem Runs.alloc {E : TypeId} {z : Value} {sz bytes : Nat} [i : Inf C.P E z sz bytes] :
    Runs C tm lo h (.alloc E) (fun v h' => v = .pointer (some ⟨h.size, 0, none⟩) ∧ h' = h.push (.cells z.cells E (0, 0))) := fun c w F hh _ _ _ _ _ => by
  subst hh
  obtain ⟨info, hi, hi1, hi2, hi3⟩ := i.parts
  refine ⟨_, { w with heap := w.heap.push (.cells z.cells E (0, 0)) }, ?_, ⟨rfl, rfl, rfl⟩, rfl, rfl⟩
  simp [execOp, Instr.alloc, zeroValue, typeInfo, hi, hi1, newVar, newRow]
theorem Runs.box {E : TypeId} {x : Operand} {u : Value} (hx : opv tm lo x = some u) :
    Runs C tm lo h (.box E x) (fun v h' => v = .pointer (some ⟨h.size, 0, none⟩) ∧ h' = h.push (.cells u.cells E (0, 0))) := fun c w F hh _ _ _ _ _ => by
  subst hh
  refine ⟨_, { w with heap := w.heap.push (.cells u.cells E (0, 0)) }, ?_, ⟨rfl, rfl, rfl⟩, rfl, rfl⟩
  simp [execOp, Instr.box, F.eval hx, newVar, newRow]

theorem madeRow (z : Value) (hz : z.cells = #[z]) (n : Nat) : (madeCells z.cells n).toList = List.replicate n z := by
  apply List.ext_getElem
  · simp [madeCells]
  · intro i h1 h2
    simp [madeCells, hz, Nat.mod_one]
/-- make([]T, n). -/
theorem Runs.mk {T E : TypeId} {z : Value} {bytes : Nat} [u : Und C.P T (.slice E)] [i : Inf C.P E z 1 bytes] (hz : z.cells = #[z]) {l c : Operand} {k k' : IntKind} (n : Nat)
    (hl : opv tm lo l = some (.int k n)) (hc : opv tm lo c = some (.int k' n)) (hn : bytes * n ≤ 140737488355328) (hb : 0 < bytes) :
    Runs C tm lo h (.makeSlice T l c) (fun v h' => Own h' h.size E 1 v n (List.replicate n z) ∧ v.ownBlock = some h.size ∧ Ext h h') := fun a w F hh _ _ _ _ _ => by
  subst hh
  obtain ⟨info, hi, hi1, hi2, hi3⟩ := i.parts
  have hnn : n ≤ 140737488355328 := Nat.le_trans (Nat.le_mul_of_pos_left n hb) hn
  have hw : IntKind.i64.wrap (n : Int) = n := wrap64_of (by omega) (by omega)
  have hr := run_make (P := C.P) w T E info z u.h hi hi1 k k' n n (by omega) (by omega) (by
    have : (info.bytes : Int) * n = ((bytes * n : Nat) : Int) := by simp [hi3]
    omega) (by omega)
  simp only [Int.toNat_natCast, hi2, Nat.mul_one] at hr
  refine ⟨.slice (some ⟨w.heap.size, 0, none⟩) n n, w.alloc (.cells (madeCells z.cells n) E), ?_, ⟨rfl, rfl, rfl⟩, ?_, rfl, (Ext.refl _).push _⟩
  · simp [execOp, F.eval hl, F.eval hc, hr]
  · refine ⟨by simp, .inr ⟨w.heap.size, n, _, rfl, Nat.le_refl _, push_self _ _, Nat.le_refl _, by simp [maxLen]; omega, by simp [madeCells], ?_⟩⟩
    rw [madeRow z hz]
    simp
end
end Go.Eng
namespace Go.Eng
section
variable {C : Ctx} {K : K3} {tm lo : Env} {h : Heap} {ops : Array Oper} {r : List Oper} {op : Op} {ty : TypeId} {pos : String} {af : Array Edge}

/-! #### Appends -/
theorem Own.keep {base T sz n : Nat} {v : Value} {xs : List Value} (o : Own h base T sz v n xs) {S : Nat → Prop} {h' : Heap} (k : Keeps S h h') (s : ∀ b, v.ownBlock = some b → S b) : Own h' base T sz v n xs := by
  refine ⟨o.1, ?_⟩
  rcases o.2 with q | ⟨g, cap, cur, rfl, hb, hg, r⟩
  · exact .inl q
  · exact .inr ⟨g, cap, cur, rfl, hb, by rw [k.blk g (Array.getElem?_eq_some_iff.1 hg).1 (s g rfl)]; exact hg, r⟩
theorem Own.ext {base T sz n : Nat} {v : Value} {xs : List Value} (o : Own h base T sz v n xs) {h' : Heap} (k : Ext h h') : Own h' base T sz v n xs := o.keep k fun _ _ => trivial
theorem Own.blk {base T sz n : Nat} {v : Value} {xs : List Value} (o : Own h base T sz v n xs) {b : Nat} (e : v.ownBlock = some b) : base ≤ b ∧ b < h.size := by
  rcases o.2 with ⟨rfl, _⟩ | ⟨g, cap, cur, rfl, hb, hg, r⟩
  · cases e
  · simp [Value.ownBlock] at e; subst e; exact ⟨hb, (Array.getElem?_eq_some_iff.1 hg).1⟩
/-- An own row is a slice to be read. -/
theorem Own.sl {base T sz n : Nat} {v : Value} {xs : List Value} (o : Own h base T sz v n xs) (hn : n ≤ 140737488355328) : Sl (fun b => v.ownBlock = some b) h sz v n xs := by
  rcases o.2 with ⟨rfl, rfl⟩ | ⟨g, cap, cur, rfl, hb, hg, h1, h2, h3, h4⟩
  · exact ⟨o.1, hn, none, 0, rfl, by omega, fun _ => rfl, fun q => absurd q (by omega)⟩
  · refine ⟨o.1, hn, _, cap, rfl, h1, fun q => (nomatch q), fun _ => ⟨g, 0, rfl, rfl, fun j hj => ?_⟩⟩
    subst h4
    simp [hc, hg, hj]
theorem Own.nil (h : Heap) (base T sz : Nat) : Own h base T sz (.slice none 0 0) 0 [] := ⟨by simp, .inl ⟨rfl, rfl⟩⟩
theorem Own.rebase {base base' T sz n : Nat} {v : Value} {xs : List Value} (o : Own h base T sz v n xs) (q : base' ≤ base) : Own h base' T sz v n xs := by
  refine ⟨o.1, ?_⟩
  rcases o.2 with p | ⟨g, cap, cur, rfl, hb, rest⟩
  · exact .inl p
  · exact .inr ⟨g, cap, cur, rfl, Nat.le_trans q hb, rest⟩

/-- Behind an append: the same block, or a new one. -/
def Grew (h : Heap) (v v' : Value) : Prop := v'.ownBlock = v.ownBlock ∨ ∃ g, v'.ownBlock = some g ∧ h.size ≤ g
theorem Runs.ap {base E sz n m bytes : Nat} {T : TypeId} {z : Value} [u : Und C.P T (.slice E)] [i : Inf C.P E z sz bytes] {s x : Operand} {v y : Value} {xs news : List Value} {S : Nat → Prop}
    (O : Own h base E sz v n xs) (hbase : base ≤ h.size) (Q : Sl S h sz y m news) (hs : opv tm lo s = some v) (hx : opv tm lo x = some y) (hz : z.cells.size = sz) (hsz : 0 < sz) (h1 : ∀ u ∈ news, oneCell u = true) (hb : (n + m) * bytes ≤ 140737488355328) (hb0 : 0 < bytes) :
    Runs C tm lo h (.call { callee := .builtin .append, args := #[s, x], argTypes := #[T, T] }) (fun v' h' => Own h' base E sz v' (n + m) (xs ++ news) ∧ Keeps (fun b => v.ownBlock ≠ some b) h h' ∧ Grew h v v') := fun c w F hh dst ty pos af gd => by
  subst hh
  obtain ⟨info, hi, hi1, hi2, hi3⟩ := i.parts
  have hnm : n + m ≤ 140737488355328 := Nat.le_trans (Nat.le_mul_of_pos_right _ hb0) hb
  have h1' : ∀ u ∈ news, u.oneCell' = true := fun u hu => by have := h1 u hu; cases u <;> simp_all [oneCell, Value.oneCell']
  have key : ∃ v' w', (Builtin.append_ #[T, T] ty #[v, y]).run C.P w = .ok v' w' ∧ w'.ownsRow base E sz v' (n + m) (xs ++ news) ∧ w.grownBy w' v.ownBlock ∧ (v'.ownBlock = v.ownBlock ∨ v'.ownBlock = some w.heap.size) := by
    obtain ⟨q1, q2, A, cap, rfl, q3, q0, q4⟩ := Q
    by_cases hm : m = 0
    · subst hm
      have hnews : news = [] := List.eq_nil_of_length_eq_zero (by simpa using q1)
      subst hnews
      cases A with
      | none =>
        have := q0 rfl
        subst this
        exact ⟨v, w, run_append_owned_none (P := C.P) w base T ty E info sz u.h hi v n xs ((own_iff ..).2 O), by simpa using (own_iff ..).2 O, ⟨rfl, rfl, rfl, Nat.le_refl _, fun _ _ _ => rfl⟩, .inl rfl⟩
      | some ad =>
        obtain ⟨v', w', r1, r2, r3, _, r4⟩ := run_append_own_at (P := C.P) w base T ty E info z sz bytes u.h hi hi1 hi2 hi3 hz hsz v n xs ((own_iff ..).2 O) ad 0 cap [] (by simp) (by simp) (by simp) (by simp [maxLen]; omega) hb hbase
        exact ⟨v', w', r1, r2, r3, r4⟩
    · obtain ⟨b, off, rfl, _, g⟩ := q4 (by omega)
      obtain ⟨v', w', r1, r2, r3, _, r4⟩ := run_append_own_at (P := C.P) w base T ty E info z sz bytes u.h hi hi1 hi2 hi3 hz hsz v n xs ((own_iff ..).2 O) ⟨b, off, none⟩ m cap news q1
        (fun j e he => by
          have hj : j < news.length := (List.getElem?_eq_some_iff.1 he).1
          rw [add_plain, cell_hc, g j (by omega)]; exact he) h1' (by simp [maxLen]; omega) hb hbase
      exact ⟨v', w', r1, r2, r3, r4⟩
  obtain ⟨v', w', r1, r2, r3, r4⟩ := key
  exact ⟨v', w', by simp [execOp, resolve, invoke, builtin, F.eval hs, F.eval hx, r1], ⟨r3.os, r3.output, r3.tape⟩, (own_iff ..).1 r2, ⟨r3.size, fun b hb q => r3.block b hb (fun e => q e.symm)⟩, r4.imp id fun e => ⟨_, e, Nat.le_refl _⟩⟩

/-- []T{y}. -/
theorem Runs.bs1 {T E : TypeId} {z : Value} {bytes : Nat} [u : Und C.P T (.slice E)] [i : Inf C.P E z 1 bytes] (hz : z.cells = #[z]) {y : Operand} {e : Value} (hy : opv tm lo y = some e) (h1 : oneCell e = true) :
    Runs C tm lo h (.buildSlice T 1 #[(0, y)]) (fun v h' => v = .slice (some ⟨h.size, 0, none⟩) 1 1 ∧ h' = h.push (.cells #[e] E (0, 0))) := fun c w F hh _ _ _ _ _ => by
  subst hh
  obtain ⟨info, hi, hi1, hi2, hi3⟩ := i.parts
  refine ⟨_, { w with heap := w.heap.push (.cells #[e] E (0, 0)) }, ?_, ⟨rfl, rfl, rfl⟩, rfl, rfl⟩
  have hcl := oneCell_cells h1
  simp [execOp, Instr.buildSlice, underlying, u.h, sizeOf, typeInfo, hi, hi1, hi2, zeroValue, hz, Instr.fill, F.eval hy, hcl, newRow]
  have : (Array.map (fun x => [z][x % 1]?.getD default) (Array.range 1)).setIfInBounds 0 e = #[e] := by
    apply Array.ext
    · simp
    · intro i h1 h2
      have : i = 0 := by simpa using h2
      subst this
      simp
  first | rw [this]; rfl | exact congrArg (fun q => w.alloc (Obj.cells q E)) this

theorem Sl.one {h : Heap} {e : Value} {E : TypeId} : Sl (fun b => b = h.size) (h.push (.cells #[e] E (0, 0))) 1 (.slice (some ⟨h.size, 0, none⟩) 1 1) 1 [e] :=
  ⟨rfl, by omega, _, 1, rfl, by omega, fun q => (nomatch q), fun _ => ⟨h.size, 0, rfl, rfl, fun j hj => by
    have : j = 0 := by omega
    subst this
    simp [hc]⟩⟩

/-- append(s, y), into a temporary. -/
theorem WR.ap1T {base E n bytes : Nat} {T : TypeId} {z : Value} [u : Und C.P T (.slice E)] [i : Inf C.P E z 1 bytes] {s y : Operand} {v e : Value} {xs : List Value} {d1 d2 : Nat} {ty' : TypeId} {pos' : String} {af' : Array Edge}
    (O : Own h base E 1 v n xs) (hbase : base ≤ h.size) (hy : opv tm lo y = some e) (hd1 : C.isT d1 = true) (hs : ∀ x, opv ((d1, x) :: tm) lo s = some v) (hd2 : C.isT d2 = true) (h1 : oneCell e = true) (hz : z.cells = #[z]) (hb : (n + 1) * bytes ≤ 140737488355328) (hb0 : 0 < bytes)
    (H : ∀ x v' h', Own h' base E 1 v' (n + 1) (xs ++ [e]) → Keeps (fun b => v.ownBlock ≠ some b) h h' → Grew h v v' → WR C ops r K ((d2, v') :: (d1, x) :: tm) lo h') :
    WR C ops (⟨some d1, .buildSlice T 1 #[(0, y)], ty, pos, af, none⟩ :: ⟨some d2, .call { callee := .builtin .append, args := #[s, .tmp d1], argTypes := #[T, T] }, ty', pos', af', none⟩ :: r) K tm lo h := by
  refine WR.stepT (Runs.bs1 hz hy h1) hd1 ?_
  rintro _ _ ⟨rfl, rfl⟩
  have O' : Own (h.push (.cells #[e] E (0, 0))) base E 1 v n xs := O.ext ((Ext.refl _).push _)
  refine WR.stepT (Runs.ap O' (by simp; omega) Sl.one (hs _) (by simp [opv, lk]) (by simp [hz]) (by omega) (by simpa using h1) hb hb0) hd2 ?_
  rintro v' h' ⟨o, k, g⟩
  exact H _ v' h' o (((Keeps.refl _ h).push _).trans k) (g.imp id fun ⟨g, e, q⟩ => ⟨g, e, by simp at q; omega⟩)
theorem WR.ap1L {base E n bytes : Nat} {T : TypeId} {z : Value} [u : Und C.P T (.slice E)] [i : Inf C.P E z 1 bytes] {s y : Operand} {v e : Value} {xs : List Value} {d1 d2 : Nat} {ty' : TypeId} {pos' : String} {af' : Array Edge}
    (O : Own h base E 1 v n xs) (hbase : base ≤ h.size) (hy : opv tm lo y = some e) (hd1 : C.isT d1 = true) (hs : ∀ x, opv ((d1, x) :: tm) lo s = some v) (hd2 : C.isL d2 = true) (h1 : oneCell e = true) (hz : z.cells = #[z]) (hb : (n + 1) * bytes ≤ 140737488355328) (hb0 : 0 < bytes)
    (H : ∀ x v' h', Own h' base E 1 v' (n + 1) (xs ++ [e]) → Keeps (fun b => v.ownBlock ≠ some b) h h' → Grew h v v' → WR C ops r K ((d1, x) :: tm) ((d2, v') :: lo) h') :
    WR C ops (⟨some d1, .buildSlice T 1 #[(0, y)], ty, pos, af, none⟩ :: ⟨some d2, .call { callee := .builtin .append, args := #[s, .tmp d1], argTypes := #[T, T] }, ty', pos', af', none⟩ :: r) K tm lo h := by
  refine WR.stepT (Runs.bs1 hz hy h1) hd1 ?_
  rintro _ _ ⟨rfl, rfl⟩
  have O' : Own (h.push (.cells #[e] E (0, 0))) base E 1 v n xs := O.ext ((Ext.refl _).push _)
  refine WR.stepL (Runs.ap O' (by simp; omega) Sl.one (hs _) (by simp [opv, lk]) (by simp [hz]) (by omega) (by simpa using h1) hb hb0) hd2 ?_
  rintro v' h' ⟨o, k, g⟩
  exact H _ v' h' o (((Keeps.refl _ h).push _).trans k) (g.imp id fun ⟨g, e, q⟩ => ⟨g, e, by simp at q; omega⟩)
end
end Go.Eng
namespace Go.Eng
section
variable {C : Ctx} {K : K3} {tm lo : Env} {h : Heap} {ops : Array Oper} {r : List Oper} {op : Op} {ty : TypeId} {pos : String} {af : Array Edge}

theorem call_run {f : Operand} {args : Array Operand} {ats : Array TypeId} {g : FuncId} {cap : Array Value} {l : List Value} {a : Act} (F : Fits C tm lo a) (w : World) (hf : opv tm lo f = some (.func (.func g) #[] cap)) (ha : opvs tm lo args.toList = some l) [q : Fun C.P g]
    (dst : Option Tmp) (ty : TypeId) (pos : String) (af : Array Edge) (gd : Option (Nat × Bool)) :
    (execOp a.eval ⟨dst, .call { callee := .value f, args, argTypes := ats }, ty, pos, af, gd⟩).run C.P w = .ok (.enter g (l.toArray ++ cap)) w := by
  obtain ⟨fn, h1, h2⟩ := Option.map_eq_some_iff.1 q.h
  simp only [bne_iff_ne, Bool.and_eq_true] at h2
  obtain ⟨h2, h3⟩ := h2
  have hb : fn.body.isNone = false := by cases e : fn.body <;> simp_all
  have hn : (fn.name == "runtime.NumGoroutine") = false := by simpa using h2
  have hb' : fn.body ≠ none := by intro e; simp [e] at h3
  simp [h2, hb', execOp, resolve, F.eval hf, Deferred.ofValue, invoke, callFunc, h1, hn, hb, mapA (F.evals ha)]

/-- A call, by its contract. -/
theorem WR.callX {d : Nat} (tc : Bool) {f : Operand} {args : Array Operand} {ats : Array TypeId} {g : FuncId} {cap : Array Value} {l : List Value} {A : Array Value} [q : Fun C.P g] {Φ : Ending → Heap → Prop}
    (S : SpecX C.P g A h Φ) (hf : opv tm lo f = some (.func (.func g) #[] cap)) (ha : opvs tm lo args.toList = some l) (hA : l.toArray ++ cap = A) (hd : (bif tc then C.isT d else C.isL d) = true)
    (H : ∀ v h', Φ (.returned v) h' → WR C ops r K (bif tc then (d, v) :: tm else tm) (bif tc then lo else (d, v) :: lo) h')
    (HP : ∀ ch h', Φ (.panicked ch) h' → K (.panic ch) tm lo h') (HO : ∀ h', ¬ Φ .outgrown h') :
    WR C ops (⟨some d, .call { callee := .value f, args, argTypes := ats }, ty, pos, af, none⟩ :: r) K tm lo h := by
  intro w0 a w hr hh F
  refine wpList_plain rfl fun K' hK => ?_
  unfold Oper.wp
  rw [call_run F w hf ha, hA, Oper.upon_enter]
  refine (S w hh).mono ?_
  rintro x w' ⟨r1, p⟩
  cases x with
  | returned v =>
    cases tc with
    | true => exact hK _ _ (H v _ p w0 _ w' (hr.trans r1) rfl (F.putT hd v))
    | false => exact hK _ _ (H v _ p w0 _ w' (hr.trans r1) rfl (F.putL hd v))
  | panicked ch => exact ⟨hr.trans r1, tm, lo, F, HP ch _ p⟩
  | outgrown => exact absurd p (HO _)
theorem WR.callT {d : Nat} {f : Operand} {args : Array Operand} {ats : Array TypeId} {g : FuncId} {l : List Value} [q : Fun C.P g] {Φ : Value → Heap → Prop}
    (S : Spec C.P g l.toArray h Φ) (hf : opv tm lo f = some (.func (.func g) #[] #[])) (ha : opvs tm lo args.toList = some l) (hd : C.isT d = true)
    (H : ∀ v h', Φ v h' → WR C ops r K ((d, v) :: tm) lo h') :
    WR C ops (⟨some d, .call { callee := .value f, args, argTypes := ats }, ty, pos, af, none⟩ :: r) K tm lo h :=
  WR.callX true S hf ha (by simp) hd H (fun _ _ p => p.elim) (fun _ p => p)
theorem WR.callL {d : Nat} {f : Operand} {args : Array Operand} {ats : Array TypeId} {g : FuncId} {l : List Value} [q : Fun C.P g] {Φ : Value → Heap → Prop}
    (S : Spec C.P g l.toArray h Φ) (hf : opv tm lo f = some (.func (.func g) #[] #[])) (ha : opvs tm lo args.toList = some l) (hd : C.isL d = true)
    (H : ∀ v h', Φ v h' → WR C ops r K tm ((d, v) :: lo) h') :
    WR C ops (⟨some d, .call { callee := .value f, args, argTypes := ats }, ty, pos, af, none⟩ :: r) K tm lo h :=
  WR.callX false S hf ha (by simp) hd H (fun _ _ p => p.elim) (fun _ p => p)
/-- A call of a closure. -/
theorem WR.callC {d : Nat} {f : Operand} {args : Array Operand} {ats : Array TypeId} {g : FuncId} {cap : Array Value} {A : Array Value} {l : List Value} [q : Fun C.P g] {Φ : Value → Heap → Prop}
    (S : Spec C.P g A h Φ) (hf : opv tm lo f = some (.func (.func g) #[] cap)) (ha : opvs tm lo args.toList = some l) (hA : l.toArray ++ cap = A) (hd : C.isT d = true)
    (H : ∀ v h', Φ v h' → WR C ops r K ((d, v) :: tm) lo h') :
    WR C ops (⟨some d, .call { callee := .value f, args, argTypes := ats }, ty, pos, af, none⟩ :: r) K tm lo h :=
  WR.callX true S hf ha hA hd H (fun _ _ p => p.elim) (fun _ p => p)

/-! #### Guards -/
theorem WR.gt {d : Option Nat} {j dj : Nat} {b want : Bool} (hj : (ops[j]?).bind (·.dst) = some dj) (hb : lk tm lo dj = some (.bool b)) (e : b = want)
    (H : WR C ops (⟨d, op, ty, pos, af, none⟩ :: r) K tm lo h) : WR C ops (⟨d, op, ty, pos, af, some (j, want)⟩ :: r) K tm lo h := by
  subst e
  intro w0 a w hr hh F
  have hy : yielded ops a.tmps j = some b := by simp [yielded, hj, F.at_ hb]
  have h1 := H w0 a w hr hh F
  have hw : Region.wanted ⟨d, op, ty, pos, af, some (j, b)⟩ (yielded ops a.tmps) = true := by simp [Region.wanted, hy]
  have hw' : Region.wanted ⟨d, op, ty, pos, af, none⟩ (yielded ops a.tmps) = true := by simp [Region.wanted]
  have he : execOp a.eval ⟨d, op, ty, pos, af, some (j, b)⟩ = execOp a.eval ⟨d, op, ty, pos, af, none⟩ := by cases op <;> rfl
  unfold wpList at h1 ⊢
  rw [if_pos hw'] at h1
  rw [if_pos hw]
  unfold Oper.wp Oper.asks at h1 ⊢
  rw [he]
  exact h1
theorem WR.gf {d j dj : Nat} {b want : Bool} (hj : (ops[j]?).bind (·.dst) = some dj) (hb : lk tm lo dj = some (.bool b)) (e : b = !want) (hd : C.isT d = true)
    (H : WR C ops r K ((d, undef) :: tm) lo h) : WR C ops (⟨some d, op, ty, pos, af, some (j, want)⟩ :: r) K tm lo h := by
  subst e
  intro w0 a w hr hh F
  have hy : yielded ops a.tmps j = some (!want) := by simp [yielded, hj, F.at_ hb]
  have hw : Region.wanted ⟨some d, op, ty, pos, af, some (j, want)⟩ (yielded ops a.tmps) = false := by simp [Region.wanted, hy]
  unfold wpList
  rw [hw]
  simp only [Bool.false_eq_true, if_false]
  exact H w0 _ w hr hh (F.putT hd undef)
/-- The guard is not known yet. -/
theorem WR.gcase {d : Option Nat} {j dj : Nat} {b want : Bool} {rr : List Oper} {o : Oper} (hb : lk tm lo dj = some (.bool b)) 
    (H : ∀ c : Bool, b = c → WR C ops (o :: rr) K tm lo h) : WR C ops (o :: rr) K tm lo h := H b rfl

/-! #### A function -/
def resl (tm lo : Env) : List ResultVar → Option (List Value)
  | [] => some []
  | .tmp t :: r => match lk tm lo t, resl tm lo r with
    | some v, some l => some (v :: l)
    | _, _ => none
  | .cell _ _ :: _ => none
def one : List Value → Value
  | [x] => x
  | l => .tuple l.toArray
abbrev bodyK (rs : List ResultVar) (Φ : Value → Heap → Prop) : K3
  | .normal => fun tm lo h => ∃ l, resl tm lo rs = some l ∧ Φ (one l) h
  | .ret => fun tm lo h => ∃ l, resl tm lo rs = some l ∧ Φ (one l) h
  | _ => fun _ _ _ => False

theorem Fits.res {a : Act} (F : Fits C tm lo a) : ∀ {rs : List ResultVar} {l : List Value}, resl tm lo rs = some l →
    ∀ (w : World), (rs.mapM (m := Sem) fun | .tmp t => pure (a.tmps.getD t undef) | .cell x t => do loadVar t (← asAddr (a.tmps.getD x undef))).run C.P w = .ok l w
  | [], l, h, w => by simp [resl] at h; simp [h]
  | .tmp t :: r, l, h, w => by
    simp only [resl] at h
    split at h
    · rename_i v l' h1 h2
      simp at h
      subst h
      have := F.at_ h1
      have ih := F.res h2 w
      simp only [List.mapM_cons, Sem.run_bind, Sem.run_pure, Result.andThen_ok]
      rw [ih]
      simp [this]
    · cases h
  | .cell _ _ :: _, _, h, _ => by simp [resl] at h

def argsEnv (args : List Value) : Env → Prop
  | [] => True
  | (t, v) :: e => args[t]? = some v ∧ argsEnv args e
theorem argsEnv_look {args : List Value} {t : Nat} {v : Value} : ∀ {e : Env}, argsEnv args e → look e t = some v → args[t]? = some v
  | [], _, h => by cases h
  | (s, u) :: e, hs, h => by
    simp only [look] at h
    by_cases q : t = s
    · subst q; rw [beq_self] at h; simp at h; subst h; exact hs.1
    · rw [beq_ne q] at h; exact argsEnv_look hs.2 h

theorem Spec.body {f : FuncId} {fn : Func} {c : Code} {args : List Value} {Φ : Value → Heap → Prop} (e : Env) (hf : C.P.funcs[f]? = some fn) (hb : fn.body = some c) (hn : fn.ntmps = C.n) (hlen : Nat.ble args.length C.n = true) (he : argsEnv args e) (hL : allL C e = true)
    (H : WC C c (bodyK fn.results.toList Φ) [] e h) : Spec C.P f args.toArray h Φ := by
  intro w hh
  have hlen := Nat.le_of_ble_eq_true hlen
  refine calls_of_wp hf hb ?_
  refine wp_mono (H w _ w (Rest.refl w) hh ⟨by simp [hn]; omega, rfl, fun _ _ h => (nomatch h), fun t v h => ⟨?_, allL_look hL h⟩⟩) ?_
  · have := argsEnv_look he h
    have hlt := (List.getElem?_eq_some_iff.1 this).1
    simp [Array.getElem?_append, hlt, this]
    rw [List.getElem?_eq_getElem hlt] at this
    simpa using this
  · rintro x a w' ⟨r, tm, lo, F, k⟩
    have fin : ∀ l, resl tm lo fn.results.toList = some l → (results fn a.tmps).run C.P w' = .ok (one l) w' := by
      intro l hl
      have := F.res hl w'
      have hm : (fn.results.mapM (m := Sem) fun | .tmp t => pure (a.tmps.getD t undef) | .cell x t => do loadVar t (← asAddr (a.tmps.getD x undef))).run C.P w' = .ok l.toArray w' := by
        rw [← Array.toArray_toList (xs := fn.results), List.mapM_toArray, Sem.run_map, this]
        rfl
      unfold results
      rw [Sem.run_bind]
      refine (congrArg (fun q : Result (Array Value) => q.andThen fun a w' => Sem.run C.P (pure (if h : a.size = 1 then a[0] else Value.tuple a)) w') hm).trans ?_
      rcases l with _ | ⟨v, _ | ⟨u, l⟩⟩ <;> simp [one]
    cases x with
    | normal => obtain ⟨l, h1, h2⟩ := k; exact ⟨F.defers, _, fin l h1, r, h2⟩
    | ret => obtain ⟨l, h1, h2⟩ := k; exact ⟨F.defers, _, fin l h1, r, h2⟩
    | exit i => exact k.elim
    | goto i => exact k.elim
    | panic ch => exact k.elim
    | outgrown => exact k.elim
end
end Go.Eng
namespace Go.Eng

/-! ### Whatever order is picked: what the region's worlds hold (S) is kept by every operation but the last one (number e, which waits for all others) -/
section
variable {P : Program} {ops : Array Oper} {Q : Exit → Act → World → Prop} {S : World → Prop} {e : Nat}
def AnyE (P : Program) (ops : Array Oper) (Q : Exit → Act → World → Prop) (S : World → Prop) (e : Nat) : Nat → Array Bool → Act → World → Prop
  | 0, listed, a, w => Region.ready .any ops listed = [] ∧ Q .normal a w
  | fuel + 1, listed, a, w =>
    (Region.ready .any ops listed = [] → Q .normal a w) ∧
    ∀ i ∈ Region.ready .any ops listed, wpOp P ops Q i (fun a' w' => (i ≠ e → S w') ∧ AnyE P ops Q S e fuel (listed.setIfInBounds i true) a' w') a w
theorem AnyE.any : ∀ (fuel : Nat) (listed : Array Bool) (a : Act) (w : World), AnyE P ops Q S e fuel listed a w → wpAny P .any ops Q fuel listed a w
  | 0, _, _, _, h => h
  | fuel + 1, _, _, _, h => ⟨h.1, fun i hi => wpOp_mono (fun a' w' h' => AnyE.any fuel _ a' w' h'.2) (h.2 i hi)⟩
/-- e waits for i. -/
def waitsE (ops : Array Oper) (e i : Nat) : Bool := match ops[e]? with
  | some o => o.after.any fun x => Region.binds .any x && x.on == i
  | none => true
theorem notReady {i : Nat} {listed : Array Bool} (hw : waitsE ops e i = true) (hi : listed.getD i true = false) : e ∉ Region.ready .any ops listed := by
  intro hr
  obtain ⟨h0, o, ho, hall⟩ := mem_ready.1 hr
  unfold waitsE at hw
  rw [ho] at hw
  obtain ⟨x, hx, hb⟩ := Array.any_eq_true'.1 hw
  simp only [Bool.and_eq_true, beq_iff_eq] at hb
  have h1 := hall x hx hb.1
  rw [hb.2] at h1
  rcases Nat.lt_or_ge i listed.size with q | q
  · simp [q] at hi h1; rw [hi] at h1; cases h1
  · simp [Array.getElem?_eq_none q] at hi
theorem AnyE.first {i : Nat} {oi : Oper} {v : Value} (hi : ops[i]? = some oi) (hs : Region.noSelect ops = true) (hQ : ∀ c a w, Q (.panic c) (a.put oi.dst v) w → Q (.panic c) a w) (hwe : waitsE ops e i = true) (hne : i ≠ e) :
    ∀ (fuel : Nat) (listed : Array Bool) (a : Act) (w : World), Region.free .any ops listed i = true → i ∈ Region.ready .any ops listed → YieldsIf P ops S oi v a → S w →
      AnyE P ops Q S e fuel (listed.setIfInBounds i true) (a.put oi.dst v) w → AnyE P ops Q S e (fuel + 1) listed a w := by
  have hsel := fun j o cs b => Region.noSelect_spec hs j o cs b
  suffices H : ∀ (fuel : Nat) (listed : Array Bool) (a : Act) (w : World),
      (∀ j oj, ops[j]? = some oj → j ≠ i → listed.getD j true = false → (∀ x ∈ oj.after, Region.binds .any x = true → x.on ≠ i) → oi.apart ops oj = true) →
      i ∈ Region.ready .any ops listed → YieldsIf P ops S oi v a → S w →
      AnyE P ops Q S e fuel (listed.setIfInBounds i true) (a.put oi.dst v) w → AnyE P ops Q S e (fuel + 1) listed a w from
    fun fuel listed a w hf => H fuel listed a w (Region.free_spec hi hf)
  intro fuel
  induction fuel with
  | zero =>
    intro listed a w _ hr hy hS H
    refine ⟨fun h => (by rw [h] at hr; cases hr), fun j hj => ?_⟩
    by_cases hji : j = i
    · subst hji; exact hy.wpOp hi hS ⟨fun _ => hS, H⟩
    · have := ready_mono hj hji
      rw [H.1] at this
      cases this
  | succ fuel ih =>
    intro listed a w hfree hr hy hS H
    refine ⟨fun h => (by rw [h] at hr; cases hr), fun j hj => ?_⟩
    by_cases hji : j = i
    · subst hji; exact hy.wpOp hi hS ⟨fun _ => hS, H⟩
    · have hil := (mem_ready.1 hr).1
      have hje : j ≠ e := fun q => notReady hwe hil (q ▸ hj)
      have h1 := H.2 j (ready_mono hj hji)
      obtain ⟨hjun, oj, hoj, hall⟩ := mem_ready.1 hj
      have hnot : ∀ x ∈ oj.after, Region.binds .any x = true → x.on ≠ i := fun x hx hb heq => by
        have h1 := hall x hx hb
        rw [heq] at h1
        rcases Nat.lt_or_ge i listed.size with q | q
        · simp [q] at hil h1; rw [hil] at h1; cases h1
        · simp [Array.getElem?_eq_none q] at h1
      have h2 := wpOp_putIf hoj (hfree j oj hoj hji hjun hnot) (fun cs b => hsel i oi cs b hi) (fun cs b => hsel j oj cs b hoj) hQ hy h1
      have hfree' : ∀ k ok, ops[k]? = some ok → k ≠ i → (listed.setIfInBounds j true).getD k true = false →
          (∀ x ∈ ok.after, Region.binds .any x = true → x.on ≠ i) → oi.apart ops ok = true := fun k ok hk hki hun hno => by
        refine hfree k ok hk hki ?_ hno
        by_cases hjk : j = k
        · subst hjk; exact hjun
        · rw [getD_set_ne true hjk] at hun; exact hun
      refine wpOp_mono (fun a' w' h3 => ⟨fun _ => h3.2.1 hje, ih (listed.setIfInBounds j true) a' w' hfree' (ready_mono hr (Ne.symm hji)) h3.1 (h3.2.1 hje) ?_⟩) h2
      rw [Array.setIfInBounds_comm _ _ hji]
      exact h3.2.2
end

/-- An order that serves for all: what changes the heap (true) comes up alone. -/
def okSeq (ops : Array Oper) (e : Nat) : List (Bool × Nat) → Array Bool → Bool
  | [], listed => (Region.ready .any ops listed).isEmpty
  | (t, i) :: r, listed => (bif t then Region.ready .any ops listed == [i] else (i != e && waitsE ops e i && Region.free .any ops listed i && (Region.ready .any ops listed).contains i)) && okSeq ops e r (listed.setIfInBounds i true)

def panicFlat (K : K3) : Prop := ∀ ch tm lo tm' lo' h, K (.panic ch) tm lo h → K (.panic ch) tm' lo' h

def WQ (C : Ctx) (ops : Array Oper) (e : Nat) (S : Heap → Prop) (σ : List (Bool × Nat)) (K : K3) (tm lo : Env) (h : Heap) : Prop :=
  ∀ listed, okSeq ops e σ listed = true → Region.noSelect ops = true → panicFlat K → (σ ≠ [] → S h) → ∀ w0 a w, Rest w0 w → w.heap = h → Fits C tm lo a →
    AnyE C.P ops (lift C w0 K) (fun w => Rest w0 w ∧ S w.heap) e σ.length listed a w

def nth : List Oper → Nat → Option Oper
  | [], _ => none
  | o :: _, 0 => some o
  | _ :: r, n + 1 => nth r n
theorem nth_eq : ∀ (l : List Oper) (i : Nat), nth l i = l[i]?
  | [], _ => by simp [nth]
  | o :: _, 0 => by simp [nth]
  | _ :: r, n + 1 => by simp [nth, nth_eq r n]

section
variable {C : Ctx} {K : K3} {tm lo : Env} {h : Heap} {ol : List Oper} {e : Nat} {S : Heap → Prop} {σ : List (Bool × Nat)} {op : Op} {ty : TypeId} {pos : String} {af : Array Edge} {i : Nat}

theorem lift_panic {w0 : World} (hK : panicFlat K) (dst : Option Tmp) (v : Value) : ∀ c a w, lift C w0 K (.panic c) (a.put dst v) w → lift C w0 K (.panic c) a w := by
  rintro c a w ⟨r, tm, lo, F, k⟩
  refine ⟨r, [], [], ⟨?_, ?_, fun _ _ h => (nomatch h), fun _ _ h => (nomatch h)⟩, hK c tm lo [] [] _ k⟩
  · have := F.size; cases dst <;> simpa [Act.put] using this
  · have := F.defers; cases dst <;> simpa [Act.put] using this

theorem WQ.nil (H : K .normal tm lo h) : WQ C ol.toArray e S [] K tm lo h := by
  intro listed ok _ _ hS w0 a w hr hh F
  have : Region.ready .any ol.toArray listed = [] := by simpa [okSeq] using ok
  exact ⟨this, hr, tm, lo, F, hh ▸ H⟩

theorem WQ.q {d : Nat} {v : Value} (ho : nth ol i = some ⟨some d, op, ty, pos, af, none⟩) (hp : ∀ h', S h' → RunsV C tm lo h' op v) (hd : C.isT d = true) (H : WQ C ol.toArray e S σ K ((d, v) :: tm) lo h) :
    WQ C ol.toArray e S ((false, i) :: σ) K tm lo h := by
  intro listed ok hs hK hS w0 a w hr hh F
  have hS := hS (by simp)
  simp only [okSeq, cond_false, Bool.and_eq_true, bne_iff_ne] at ok
  obtain ⟨⟨⟨⟨o4, o5⟩, o1⟩, o2⟩, o3⟩ := ok
  rw [nth_eq] at ho
  have hi : ol.toArray[i]? = some ⟨some d, op, ty, pos, af, none⟩ := by simpa using ho
  exact AnyE.first hi hs (lift_panic hK _ _) o5 o4 _ _ _ _ o1 (by simpa using o2) (.inl ⟨by simp [Region.wanted], fun w' hw' => hp w'.heap hw'.2 a w' F rfl _ _ _ _ _⟩) ⟨hr, hh ▸ hS⟩
    (H _ o3 hs hK (fun _ => hS) w0 _ w hr hh (F.putT hd v))
theorem WQ.qL {d : Nat} {v : Value} (ho : nth ol i = some ⟨some d, op, ty, pos, af, none⟩) (hp : ∀ h', S h' → RunsV C tm lo h' op v) (hd : C.isL d = true) (H : WQ C ol.toArray e S σ K tm ((d, v) :: lo) h) :
    WQ C ol.toArray e S ((false, i) :: σ) K tm lo h := by
  intro listed ok hs hK hS w0 a w hr hh F
  have hS := hS (by simp)
  simp only [okSeq, cond_false, Bool.and_eq_true, bne_iff_ne] at ok
  obtain ⟨⟨⟨⟨o4, o5⟩, o1⟩, o2⟩, o3⟩ := ok
  rw [nth_eq] at ho
  have hi : ol.toArray[i]? = some ⟨some d, op, ty, pos, af, none⟩ := by simpa using ho
  exact AnyE.first hi hs (lift_panic hK _ _) o5 o4 _ _ _ _ o1 (by simpa using o2) (.inl ⟨by simp [Region.wanted], fun w' hw' => hp w'.heap hw'.2 a w' F rfl _ _ _ _ _⟩) ⟨hr, hh ▸ hS⟩
    (H _ o3 hs hK (fun _ => hS) w0 _ w hr hh (F.putL hd v))
theorem WQ.s {d : Nat} {v : Value} (ho : nth ol i = some ⟨some d, op, ty, pos, af, none⟩) (hp : pureOp tm lo op = some v) (hd : C.isT d = true) (H : WQ C ol.toArray e S σ K ((d, v) :: tm) lo h) :
    WQ C ol.toArray e S ((false, i) :: σ) K tm lo h := WQ.q ho (fun _ _ => RunsV.p hp) hd H
theorem WQ.sL {d : Nat} {v : Value} (ho : nth ol i = some ⟨some d, op, ty, pos, af, none⟩) (hp : pureOp tm lo op = some v) (hd : C.isL d = true) (H : WQ C ol.toArray e S σ K tm ((d, v) :: lo) h) :
    WQ C ol.toArray e S ((false, i) :: σ) K tm lo h := WQ.qL ho (fun _ _ => RunsV.p hp) hd H
/-- A guard that lets. -/
theorem WQ.gq {d j dj : Nat} {b want : Bool} {v : Value} (ho : nth ol i = some ⟨some d, op, ty, pos, af, some (j, want)⟩) (hj : (nth ol j).bind (·.dst) = some dj) (hb : lk tm lo dj = some (.bool b)) (eb : b = want)
    (hp : ∀ h', S h' → RunsV C tm lo h' op v) (hd : C.isT d = true) (H : WQ C ol.toArray e S σ K ((d, v) :: tm) lo h) :
    WQ C ol.toArray e S ((false, i) :: σ) K tm lo h := by
  subst eb
  intro listed ok hs hK hS w0 a w hr hh F
  have hS := hS (by simp)
  simp only [okSeq, cond_false, Bool.and_eq_true, bne_iff_ne] at ok
  obtain ⟨⟨⟨⟨o4, o5⟩, o1⟩, o2⟩, o3⟩ := ok
  rw [nth_eq] at ho hj
  have hi : ol.toArray[i]? = some ⟨some d, op, ty, pos, af, some (j, b)⟩ := by simpa using ho
  have hy : yielded ol.toArray a.tmps j = some b := by simp [yielded, hj, F.at_ hb]
  exact AnyE.first hi hs (lift_panic hK _ _) o5 o4 _ _ _ _ o1 (by simpa using o2) (.inl ⟨by simp [Region.wanted, hy], fun w' hw' => hp w'.heap hw'.2 a w' F rfl _ _ _ _ _⟩) ⟨hr, hh ▸ hS⟩
    (H _ o3 hs hK (fun _ => hS) w0 _ w hr hh (F.putT hd v))
/-- A guard that does not let. -/
theorem WQ.gf {d j dj : Nat} {b want : Bool} (ho : nth ol i = some ⟨some d, op, ty, pos, af, some (j, want)⟩) (hj : (nth ol j).bind (·.dst) = some dj) (hb : lk tm lo dj = some (.bool b)) (eb : b = !want)
    (hd : C.isT d = true) (H : WQ C ol.toArray e S σ K ((d, undef) :: tm) lo h) :
    WQ C ol.toArray e S ((false, i) :: σ) K tm lo h := by
  subst eb
  intro listed ok hs hK hS w0 a w hr hh F
  have hS := hS (by simp)
  simp only [okSeq, cond_false, Bool.and_eq_true, bne_iff_ne] at ok
  obtain ⟨⟨⟨⟨o4, o5⟩, o1⟩, o2⟩, o3⟩ := ok
  rw [nth_eq] at ho hj
  have hi : ol.toArray[i]? = some ⟨some d, op, ty, pos, af, some (j, want)⟩ := by simpa using ho
  have hy : yielded ol.toArray a.tmps j = some (!want) := by simp [yielded, hj, F.at_ hb]
  exact AnyE.first hi hs (lift_panic hK _ _) o5 o4 _ _ _ _ o1 (by simpa using o2) (.inr ⟨by simp [Region.wanted, hy], rfl⟩) ⟨hr, hh ▸ hS⟩
    (H _ o3 hs hK (fun _ => hS) w0 _ w hr hh (F.putT hd undef))

theorem only {o : Oper} {ops : Array Oper} (hi : ops[i]? = some o) (hg : o.guard = none) {fuel : Nat} {listed : Array Bool} {a : Act} {w : World} {Q : Exit → Act → World → Prop} {SW : World → Prop}
    (hr : Region.ready .any ops listed = [i]) (H : o.wp C.P a w (fun a' w' => (i ≠ e → SW w') ∧ AnyE C.P ops Q SW e fuel (listed.setIfInBounds i true) a' w') Q) :
    AnyE C.P ops Q SW e (fuel + 1) listed a w := by
  refine ⟨fun h => (by rw [hr] at h; cases h), fun j hj => ?_⟩
  rw [hr] at hj
  obtain rfl : j = i := by simpa using hj
  unfold wpOp
  simp only [hi]
  rw [if_pos (by simp [Region.wanted, hg])]
  exact .inl H

/-- What changes the heap. -/
theorem WQ.ef (tc : Bool) {d : Nat} {Φ : Value → Heap → Prop} (ho : nth ol i = some ⟨some d, op, ty, pos, af, none⟩) (hR : Runs C tm lo h op Φ) (hd : (bif tc then C.isT d else C.isL d) = true) (hS' : i ≠ e → S h → ∀ v h', Φ v h' → S h')
    (hσ : i = e → σ = [])
    (H : ∀ v h', Φ v h' → WQ C ol.toArray e S σ K (bif tc then (d, v) :: tm else tm) (bif tc then lo else (d, v) :: lo) h') : WQ C ol.toArray e S ((true, i) :: σ) K tm lo h := by
  intro listed ok hs hK hS w0 a w hr hh F
  have hS := hS (by simp)
  simp only [okSeq, cond_true, Bool.and_eq_true, beq_iff_eq] at ok
  obtain ⟨o1, o3⟩ := ok
  rw [nth_eq] at ho
  have hi : ol.toArray[i]? = some ⟨some d, op, ty, pos, af, none⟩ := by simpa using ho
  obtain ⟨v, w', r1, r2, r3⟩ := hR a w F hh (some d) ty pos af none
  refine only hi rfl o1 ?_
  unfold Oper.wp
  rw [r1, Oper.upon_value]
  have s' := fun q => hS' q hS v _ r3
  refine ⟨fun q => ⟨hr.trans r2, s' q⟩, H v _ r3 _ o3 hs hK (fun q => s' fun q2 => q (hσ q2)) w0 _ w' (hr.trans r2) rfl ?_⟩
  cases tc with
  | true => exact F.putT hd v
  | false => exact F.putL hd v
theorem WQ.u {Φ : Heap → Prop} (ho : nth ol i = some ⟨none, op, ty, pos, af, none⟩) (hR : RunsU C tm lo h op Φ) (hS' : i ≠ e → S h → ∀ h', Φ h' → S h')
    (hσ : i = e → σ = [])
    (H : ∀ h', Φ h' → WQ C ol.toArray e S σ K tm lo h') : WQ C ol.toArray e S ((true, i) :: σ) K tm lo h := by
  intro listed ok hs hK hS w0 a w hr hh F
  have hS := hS (by simp)
  simp only [okSeq, cond_true, Bool.and_eq_true, beq_iff_eq] at ok
  obtain ⟨o1, o3⟩ := ok
  rw [nth_eq] at ho
  have hi : ol.toArray[i]? = some ⟨none, op, ty, pos, af, none⟩ := by simpa using ho
  obtain ⟨w', r1, r2, r3⟩ := hR a w F hh none ty pos af none
  refine only hi rfl o1 ?_
  unfold Oper.wp
  rw [r1, Oper.upon_skip]
  have s' := fun q => hS' q hS _ r3
  exact ⟨fun q => ⟨hr.trans r2, s' q⟩, H _ r3 _ o3 hs hK (fun q => s' fun q2 => q (hσ q2)) w0 _ w' (hr.trans r2) rfl F⟩
theorem WQ.call {d : Nat} {f : Operand} {args : Array Operand} {ats : Array TypeId} {g : FuncId} {l : List Value} [q : Fun C.P g] {Φ : Value → Heap → Prop}
    (ho : nth ol i = some ⟨some d, .call { callee := .value f, args, argTypes := ats }, ty, pos, af, none⟩)
    (Sp : Spec C.P g l.toArray h Φ) (hf : opv tm lo f = some (.func (.func g) #[] #[])) (ha : opvs tm lo args.toList = some l) (hd : C.isT d = true) (hS' : i ≠ e → S h → ∀ v h', Φ v h' → S h')
    (hσ : i = e → σ = [])
    (H : ∀ v h', Φ v h' → WQ C ol.toArray e S σ K ((d, v) :: tm) lo h') : WQ C ol.toArray e S ((true, i) :: σ) K tm lo h := by
  intro listed ok hs hK hS w0 a w hr hh F
  have hS := hS (by simp)
  simp only [okSeq, cond_true, Bool.and_eq_true, beq_iff_eq] at ok
  obtain ⟨o1, o3⟩ := ok
  rw [nth_eq] at ho
  have hi : ol.toArray[i]? = some ⟨some d, .call { callee := .value f, args, argTypes := ats }, ty, pos, af, none⟩ := by simpa using ho
  refine only hi rfl o1 ?_
  unfold Oper.wp
  rw [call_run F w hf ha, Oper.upon_enter]
  simp only [Array.append_empty]
  refine (Sp w hh).mono ?_
  rintro x w' ⟨r1, p⟩
  cases x with
  | returned v =>
    have s' := fun q => hS' q hS v _ p
    exact ⟨fun q => ⟨hr.trans r1, s' q⟩, H v _ p _ o3 hs hK (fun q => s' fun q2 => q (hσ q2)) w0 _ w' (hr.trans r1) rfl (F.putT hd v)⟩
  | panicked ch => exact p.elim
  | outgrown => exact p.elim

class Mixed (P : Program) : Prop where h : P.follows .mixedOrders = true
/-- A region whose order is open. e: the last operation, if it waits for all others and need not keep S (else any number that is none). -/
theorem WC.drawE {id : Nat} [m : Mixed C.P] (e : Nat) (σ : List (Bool × Nat)) (S : Heap → Prop) (hok : (okSeq ol.toArray e σ (Array.replicate ol.toArray.size false) && Region.noSelect ol.toArray && (σ.length == ol.toArray.size)) = true) (hK : panicFlat K) (hS : S h)
    (H : WQ C ol.toArray e S σ K [] lo h) : WC C (.region id ol.toArray true) K tm lo h := by
  intro w0 a w hr hh F
  simp only [Bool.and_eq_true, beq_iff_eq] at hok
  obtain ⟨⟨h1, h2⟩, h3⟩ := hok
  refine wp_region_any m.h (AnyE.any (S := fun w => Rest w0 w ∧ S w.heap) (e := e) _ _ _ _ ?_)
  have := H _ h1 h2 hK (fun _ => hS) w0 a { w with drawn := w.drawn + 1 } ⟨hr.os, hr.output, hr.tape⟩ hh F.drop
  rw [h3] at this
  exact this
theorem WC.draw {id : Nat} [m : Mixed C.P] (σ : List (Bool × Nat)) (S : Heap → Prop) (hok : (okSeq ol.toArray 1000000 σ (Array.replicate ol.toArray.size false) && Region.noSelect ol.toArray && (σ.length == ol.toArray.size)) = true) (hK : panicFlat K) (hS : S h)
    (H : WQ C ol.toArray 1000000 S σ K [] lo h) : WC C (.region id ol.toArray true) K tm lo h := WC.drawE 1000000 σ S hok hK hS H
end
end Go.Eng
namespace Go.Eng
/-- A struct's field: at which cell. -/
class FldAt (P : Program) (s : TypeId) (f : Nat) (off : outParam Nat) : Prop where
  h : ∃ fs fd info, P.underlying s = some (.struct fs) ∧ fs[f]? = some fd ∧ P.info? fd.type = some info ∧ info.size ≠ 0 ∧ fd.offset = off
def fieldB (P : Program) (s f off : Nat) : Bool :=
  match P.underlying s with
  | some (.struct fs) => match fs[f]? with
    | some fd => (match P.info? fd.type with | some info => info.size != 0 | none => false) && fd.offset == off
    | none => false
  | _ => false
theorem FldAt.of {P : Program} {s f off : Nat} (q : fieldB P s f off = true) : FldAt P s f off := by
  unfold fieldB at q
  split at q
  · rename_i fs h1
    split at q
    · rename_i fd h2
      split at q
      · rename_i info h3
        simp at q
        exact ⟨fs, fd, info, h1, h2, h3, q.1, q.2⟩
      · simp at q
    · cases q
  · cases q
section
variable {C : Ctx} {K : K3} {tm lo : Env} {h : Heap} {ops : Array Oper} {r : List Oper} {op : Op} {ty : TypeId} {pos : String} {af : Array Edge}

theorem equalIn_pn {P : Program} (w : World) (d : Nat) {T E : TypeId} (u : P.underlying T = some (.pointer E)) (p : Option Addr) : (Op.equalIn (d + 1) T (.pointer p) (.pointer none)).run P w = .ok p.isNone w := by
  cases p <;> simp [Op.equalIn, underlying, u]
theorem RunsV.eqNil {x y : Operand} {T U E : TypeId} {p : Option Addr} [u : Und C.P T (.pointer E)] (hx : opv tm lo x = some (.pointer p)) (hy : opv tm lo y = some (.pointer none)) :
    RunsV C tm lo h (.binOp .eql T x y U) (.bool p.isNone) := fun c w F _ _ _ _ _ _ => by
  have e := equalIn_pn (P := C.P) w 9999 u.h p
  have e2 : (binOp .eql T (.pointer p) (.pointer none)).run C.P w = .ok (.bool p.isNone) w := by
    show (do pure (Value.bool (← Op.equalIn (9999 + 1) T (.pointer p) (.pointer none))) : Sem Value).run C.P w = _
    simp only [Sem.run_bind, e, Result.andThen_ok, Sem.run_pure]
  simp only [execOp, F.eval hx, F.eval hy, Sem.run_bind, e2]
  simp [eqGuard, e2]
theorem RunsV.neNil {x y : Operand} {T U E : TypeId} {p : Option Addr} [u : Und C.P T (.pointer E)] (hx : opv tm lo x = some (.pointer p)) (hy : opv tm lo y = some (.pointer none)) :
    RunsV C tm lo h (.binOp .neq T x y U) (.bool p.isSome) := fun c w F _ _ _ _ _ _ => by
  have e := equalIn_pn (P := C.P) w 9999 u.h p
  have e2 : (binOp .neq T (.pointer p) (.pointer none)).run C.P w = .ok (.bool p.isSome) w := by
    show (do pure (Value.bool (!(← Op.equalIn (9999 + 1) T (.pointer p) (.pointer none)))) : Sem Value).run C.P w = _
    simp only [Sem.run_bind, e, Result.andThen_ok, Sem.run_pure]
    cases p <;> rfl
  simp only [execOp, F.eval hx, F.eval hy, Sem.run_bind, e2]
  simp [eqGuard, e2]
/-- &x.f -/
theorem RunsV.fa {s : TypeId} {f off : Nat} [q : FldAt C.P s f off] {x : Operand} {b o : Nat} (hx : opv tm lo x = some (.pointer (some ⟨b, o, none⟩))) :
    RunsV C tm lo h (.fieldAddr s x f) (.pointer (some ⟨b, o + off, none⟩)) := fun c w F _ _ _ _ _ _ => by
  obtain ⟨fs, fd, info, u, hf, hi, hsz, rfl⟩ := q.h
  simp [execOp, F.eval hx, Instr.fieldAt, underlying, u, hf, Instr.sureAddr, fieldPlace, sizeOf, typeInfo, hi, hsz, add_plain]
/-- &a[i], a an array. -/
theorem RunsV.ia (k : Nat) {T E : TypeId} {n : Nat} {x i : Operand} {b o : Nat} {z : Value} {sz bytes : Nat} {ik : IntKind} {j : Int} [u : Und C.P T (.array n E)] [e : Inf C.P E z sz bytes] (hk : k < n)
    (hx : opv tm lo x = some (.pointer (some ⟨b, o, none⟩))) (hi : opv tm lo i = some (.int ik j)) (hj : j = (k : Int)) :
    RunsV C tm lo h (.indexAddr T x i) (.pointer (some ⟨b, o + k * sz, none⟩)) := fun c w F _ _ _ _ _ _ => by
  subst hj
  obtain ⟨info, h1, h2, h3, h4⟩ := e.parts
  simp [execOp, F.eval hx, F.eval hi, Instr.indexAt, asIntOf, underlying, u.h, Instr.sureAddr, sizeOf, typeInfo, h1, h3, hk, add_plain]
theorem RunsV.pickT {c x y : Operand} {t : Bool} {v : Value} (hc : opv tm lo c = some (.bool t)) (e : t = true) (hv : opv tm lo x = some v) : RunsV C tm lo h (.pick c x y) v := RunsV.p (by simp [pureOp, hc, e, hv])
theorem RunsV.pickF {c x y : Operand} {t : Bool} {v : Value} (hc : opv tm lo c = some (.bool t)) (e : t = false) (hv : opv tm lo y = some v) : RunsV C tm lo h (.pick c x y) v := RunsV.p (by simp [pureOp, hc, e, hv])
/-- A guard: both ways. -/
theorem WR.g {d j dj : Nat} {b want : Bool} (hj : (ops[j]?).bind (·.dst) = some dj) (hb : lk tm lo dj = some (.bool b)) (hd : C.isT d = true)
    (H1 : b = want → WR C ops (⟨some d, op, ty, pos, af, none⟩ :: r) K tm lo h) (H2 : b = !want → WR C ops r K ((d, undef) :: tm) lo h) : WR C ops (⟨some d, op, ty, pos, af, some (j, want)⟩ :: r) K tm lo h := by
  by_cases e : b = want
  · exact WR.gt hj hb e (H1 e)
  · have e' : b = !want := by cases b <;> cases want <;> simp_all
    exact WR.gf hj hb e' hd (H2 e')

/-! ### A region that leaves the heap alone -/
def same (h : Heap) : Heap → Prop := fun h' => h' = h
theorem WQ.rd {ol : List Oper} {ee : Nat} {σ : List (Bool × Nat)} {i d : Nat} {v : Value} (ho : nth ol i = some ⟨some d, op, ty, pos, af, none⟩) (hp : RunsV C tm lo h op v) (hd : C.isT d = true) (H : WQ C ol.toArray ee (same h) σ K ((d, v) :: tm) lo h) :
    WQ C ol.toArray ee (same h) ((false, i) :: σ) K tm lo h := WQ.q ho (fun _ e => by cases e; exact hp) hd H
theorem WQ.rdL {ol : List Oper} {ee : Nat} {σ : List (Bool × Nat)} {i d : Nat} {v : Value} (ho : nth ol i = some ⟨some d, op, ty, pos, af, none⟩) (hp : RunsV C tm lo h op v) (hd : C.isL d = true) (H : WQ C ol.toArray ee (same h) σ K tm ((d, v) :: lo) h) :
    WQ C ol.toArray ee (same h) ((false, i) :: σ) K tm lo h := WQ.qL ho (fun _ e => by cases e; exact hp) hd H
theorem WQ.rg {ol : List Oper} {ee : Nat} {σ : List (Bool × Nat)} {i d j dj : Nat} {b want : Bool} {v : Value} (ho : nth ol i = some ⟨some d, op, ty, pos, af, some (j, want)⟩) (hj : (nth ol j).bind (·.dst) = some dj) (hb : lk tm lo dj = some (.bool b)) (e : b = want)
    (hp : RunsV C tm lo h op v) (hd : C.isT d = true) (H : WQ C ol.toArray ee (same h) σ K ((d, v) :: tm) lo h) : WQ C ol.toArray ee (same h) ((false, i) :: σ) K tm lo h :=
  WQ.gq ho hj hb e (fun _ e => by cases e; exact hp) hd H
/-- A call that leaves the heap alone. -/
theorem WQ.rc {ol : List Oper} {ee : Nat} {σ : List (Bool × Nat)} {i d : Nat} {f : Operand} {args : Array Operand} {ats : Array TypeId} {g : FuncId} {l : List Value} [q : Fun C.P g] {φ : Value → Prop}
    (ho : nth ol i = some ⟨some d, .call { callee := .value f, args, argTypes := ats }, ty, pos, af, none⟩)
    (Sp : Spec C.P g l.toArray h (fun v h' => φ v ∧ h' = h)) (hf : opv tm lo f = some (.func (.func g) #[] #[])) (ha : opvs tm lo args.toList = some l) (hd : C.isT d = true) (hσ : i = ee → σ = [])
    (H : ∀ v, φ v → WQ C ol.toArray ee (same h) σ K ((d, v) :: tm) lo h) : WQ C ol.toArray ee (same h) ((true, i) :: σ) K tm lo h :=
  WQ.call ho Sp hf ha hd (fun _ _ _ _ q => q.2) hσ (fun v h' q => by obtain ⟨q, rfl⟩ := q; exact H v q)
/-- Of one cell. -/
class Sc (P : Program) (T : TypeId) : Prop where h : (match P.underlying T with | some d => scal d | none => false) = true
theorem RunsV.ld {T : TypeId} [q : Sc C.P T] {x : Operand} {b o : Nat} {v : Value} (hx : opv tm lo x = some (.pointer (some ⟨b, o, none⟩))) (hv : hc h b o = some v) :
    RunsV C tm lo h (.load T x) v := by
  have := q.h
  split at this
  · rename_i d hd
    exact RunsV.ldc (u := ⟨hd⟩) this hx hv
  · cases this
end
end Go.Eng
namespace Go.Eng
section
variable {C : Ctx} {K : K3} {tm lo tg : Env} {h : Heap} {ops : Array Oper} {r : List Oper} {op : Op} {ty : TypeId} {pos : String} {af : Array Edge} {p : Prop} {j dj : Nat} {b want : Bool}

/-! ### Operations under one guard, walked once: what they yield holds where the guard lets -/
def WG (C : Ctx) (ops : Array Oper) (dj : Nat) (b want : Bool) (r : List Oper) (K : K3) (tg tm lo : Env) (h : Heap) : Prop :=
  ∀ w0 a w, Rest w0 w → w.heap = h → (b = want → Fits C (tg ++ tm) lo a) → Fits C tm lo a → lk tm lo dj = some (.bool b) → wpList C.P ops (lift C w0 K) r a w

theorem WG.start {d : Option Nat} (hj : (ops[j]?).bind (·.dst) = some dj) (hb : lk tm lo dj = some (.bool b)) (H : WG C ops dj b want (⟨d, op, ty, pos, af, some (j, want)⟩ :: r) K [] tm lo h) : WR C ops (⟨d, op, ty, pos, af, some (j, want)⟩ :: r) K tm lo h :=
  fun w0 a w hr hh F => H w0 a w hr hh (fun _ => F) F hb

theorem lk_append {x y lo : Env} {t : Nat} {v : Value} (h : lk y lo t = some v) (n : look x t = none) : lk (x ++ y) lo t = some v := by
  induction x with
  | nil => exact h
  | cons p x ih =>
    obtain ⟨s, u⟩ := p
    simp only [look] at n
    by_cases e : t = s
    · subst e; rw [beq_self] at n; cases n
    · rw [beq_ne e] at n
      simp only [List.cons_append, lk]
      rw [beq_ne e]
      exact ih n
theorem Fits.cons_undef {tm lo : Env} {a : Act} (F : Fits C tm lo a) {d : Nat} (hd : C.isT d = true) (hn : look tm d = none) (v : Value) : Fits C tm lo (a.put (some d) v) := by
  have G := F.putT hd v
  refine ⟨G.size, G.defers, fun t u e => G.tm_ t u ?_, G.lo_⟩
  have : t ≠ d := fun q => by subst q; rw [hn] at e; cases e
  simp only [look]
  rw [beq_ne this]
  exact e

/-- One guarded operation. -/
theorem WG.v {d : Nat} {v : Value} (hj : (ops[j]?).bind (·.dst) = some dj) (hp : b = want → RunsV C (tg ++ tm) lo h op v) (hd : C.isT d = true) (hn : look tm d = none)
    (H : WG C ops dj b want r K ((d, v) :: tg) tm lo h) : WG C ops dj b want (⟨some d, op, ty, pos, af, some (j, want)⟩ :: r) K tg tm lo h := by
  intro w0 a w hr hh Fp F hb
  have hy : yielded ops a.tmps j = some b := by simp [yielded, hj, F.at_ hb]
  by_cases e : b = want
  · have hrun := hp e a w (Fp e) hh (some d) ty pos af (some (j, want))
    have hw : Region.wanted ⟨some d, op, ty, pos, af, some (j, want)⟩ (yielded ops a.tmps) = true := by simp [Region.wanted, hy, e]
    unfold wpList
    rw [if_pos hw]
    refine .inl ?_
    unfold Oper.wp
    rw [hrun, Oper.upon_value]
    exact H w0 _ w hr hh (fun _ => (Fp e).putT hd v) (F.cons_undef hd hn v) hb
  · have hw : Region.wanted ⟨some d, op, ty, pos, af, some (j, want)⟩ (yielded ops a.tmps) = false := by simp [Region.wanted, hy, e]
    unfold wpList
    rw [hw]
    simp only [Bool.false_eq_true, if_false]
    exact H w0 _ w hr hh (fun q => absurd q e) (F.cons_undef hd hn undef) hb
theorem WG.s {d : Nat} {v : Value} (hj : (ops[j]?).bind (·.dst) = some dj) (hp : pureOp (tg ++ tm) lo op = some v) (hd : C.isT d = true) (hn : look tm d = none)
    (H : WG C ops dj b want r K ((d, v) :: tg) tm lo h) : WG C ops dj b want (⟨some d, op, ty, pos, af, some (j, want)⟩ :: r) K tg tm lo h := WG.v hj (fun _ => RunsV.p hp) hd hn H
/-- 'x || y'. -/
theorem WG.or {d : Nat} {y : Operand} {b2 : Bool} (hy : opv (tg ++ tm) lo y = some (.bool b2)) (hd : C.isT d = true)
    (H : WR C ops r K ((d, .bool (b || b2)) :: tm) lo h) : WG C ops dj b false (⟨some d, .pick (.tmp dj) (.const (.bool true)) y, ty, pos, af, none⟩ :: r) K tg tm lo h := by
  intro w0 a w hr hh Fp F hb
  refine wpList_plain rfl fun K' hK => ?_
  unfold Oper.wp
  have hc : a.eval (.tmp dj) = .bool b := F.eval (x := .tmp dj) hb
  cases hbb : b with
  | true =>
    subst hbb
    simp only [execOp, hc, asBool, Sem.run_bind, Sem.run_pure, Result.andThen_ok, if_true, Oper.upon_value]
    exact hK _ _ (H w0 _ w hr hh (F.putT hd _))
  | false =>
    subst hbb
    have hv : a.eval y = .bool b2 := (Fp rfl).eval hy
    simp only [execOp, hc, asBool, Sem.run_bind, Sem.run_pure, Result.andThen_ok, Bool.false_eq_true, if_false, Oper.upon_value, hv]
    exact hK _ _ (H w0 _ w hr hh (F.putT hd _))
/-- 'x && y'. -/
theorem WG.and {d : Nat} {y : Operand} {b2 : Bool} (hy : opv (tg ++ tm) lo y = some (.bool b2)) (hd : C.isT d = true)
    (H : WR C ops r K ((d, .bool (b && b2)) :: tm) lo h) : WG C ops dj b true (⟨some d, .pick (.tmp dj) y (.const (.bool false)), ty, pos, af, none⟩ :: r) K tg tm lo h := by
  intro w0 a w hr hh Fp F hb
  refine wpList_plain rfl fun K' hK => ?_
  unfold Oper.wp
  have hc : a.eval (.tmp dj) = .bool b := F.eval (x := .tmp dj) hb
  have hcf : a.eval (.const (.bool false)) = .bool false := rfl
  cases hbb : b with
  | false =>
    subst hbb
    simp only [execOp, hc, asBool, Sem.run_bind, Sem.run_pure, Result.andThen_ok, Bool.false_eq_true, if_false, Oper.upon_value, hcf]
    exact hK _ _ (H w0 _ w hr hh (F.putT hd _))
  | true =>
    subst hbb
    have hv : a.eval y = .bool b2 := (Fp rfl).eval hy
    simp only [execOp, hc, asBool, Sem.run_bind, Sem.run_pure, Result.andThen_ok, if_true, Oper.upon_value, hv]
    exact hK _ _ (H w0 _ w hr hh (F.putT hd _))

/-! ### Leaving blocks; meeting again -/
theorem exit_hit {i : Nat} (H : K .normal tm lo h) : blockK i K (.exit i) tm lo h := ⟨fun _ => H, fun q => absurd rfl q⟩
theorem exit_miss {i k : Nat} (e : k ≠ i) (H : K (.exit k) tm lo h) : blockK i K (.exit k) tm lo h := ⟨fun q => absurd q e, fun _ => H⟩
abbrev cutK {σ : Type} (E : σ → Env) (I : σ → Heap → Prop) (K : K3) : K3
  | .normal => fun tm lo h => ∃ s, Sub (E s) tm lo ∧ I s h
  | x => K x
theorem WC.cut {x y : Code} {σ : Type} (E : σ → Env) (I : σ → Heap → Prop) (hL : ∀ s, allL C (E s) = true) (H1 : WC C x (cutK E I K) tm lo h) (H2 : ∀ s h, I s h → WC C y K [] (E s) h) : WC C (.seq x y) K tm lo h := by
  refine WC.seq fun w0 a w hr hh F => wp_mono (H1 w0 a w hr hh F) ?_
  rintro e a w ⟨r, tm, lo, F, k⟩
  cases e with
  | normal =>
    obtain ⟨s, h1, h2⟩ := k
    exact ⟨r, [], E s, F.toSub h1 (hL s), H2 s _ h2⟩
  | _ => exact ⟨r, tm, lo, F, k⟩
/-- What follows a block, a condition.. at once, for all the ways that lead there. -/
theorem WC.conseq {c : Code} {K' : K3} (H : WC C c K' tm lo h) (k : ∀ x tm lo h, K' x tm lo h → K x tm lo h) : WC C c K tm lo h := by
  intro w0 a w hr hh F
  refine wp_mono (H w0 a w hr hh F) ?_
  rintro x a w ⟨r, tm, lo, F, q⟩
  exact ⟨r, tm, lo, F, k _ _ _ _ q⟩

/-! ### Boxes -/
def Box (h : Heap) (b : Nat) (E : TypeId) (u : Value) : Prop := h[b]? = some (.cells #[u] E (0, 0))
theorem Box.lt {h : Heap} {b : Nat} {E : TypeId} {u : Value} (B : Box h b E u) : b < h.size := (Array.getElem?_eq_some_iff.1 B).1
theorem Box.keep {S : Nat → Prop} {h h' : Heap} {b : Nat} {E : TypeId} {u : Value} (B : Box h b E u) (k : Keeps S h h') (s : S b) : Box h' b E u := (k.blk b B.lt s).trans B
theorem Box.ext {h h' : Heap} {b : Nat} {E : TypeId} {u : Value} (B : Box h b E u) (k : Ext h h') : Box h' b E u := B.keep k trivial
theorem Box.hc {h : Heap} {b : Nat} {E : TypeId} {u : Value} (B : Box h b E u) : hc h b 0 = some u := by unfold Box at B; simp [Eng.hc, B]
abbrev ptr (b : Nat) : Value := .pointer (some ⟨b, 0, none⟩)
theorem RunsV.ldB {E T : TypeId} [q : Sc C.P T] {x : Operand} {b : Nat} {u : Value} (B : Box h b E u) (hx : opv tm lo x = some (ptr b)) : RunsV C tm lo h (.load T x) u := RunsV.ld hx B.hc
theorem Runs.bx {E : TypeId} {x : Operand} {u : Value} (hx : opv tm lo x = some u) (h1 : oneCell u = true) :
    Runs C tm lo h (.box E x) (fun v h' => ∃ b, v = ptr b ∧ h.size ≤ b ∧ Box h' b E u ∧ Ext h h') := fun c w F hh dst ty pos af gd => by
  obtain ⟨v, w', r1, r2, rfl, r3⟩ := Runs.box (C := C) (E := E) hx c w F hh dst ty pos af gd
  refine ⟨_, w', r1, r2, h.size, rfl, Nat.le_refl _, ?_, ?_⟩
  · rw [r3, oneCell_cells h1]; exact push_self _ _
  · rw [r3]; exact (Ext.refl _).push _
/-- new, of one cell. -/
theorem Runs.al {E : TypeId} {z : Value} {bytes : Nat} [i : Inf C.P E z 1 bytes] (hz : z.cells = #[z]) :
    Runs C tm lo h (.alloc E) (fun v h' => ∃ b, v = ptr b ∧ h.size ≤ b ∧ Box h' b E z ∧ Ext h h') := fun c w F hh dst ty pos af gd => by
  obtain ⟨v, w', r1, r2, rfl, r3⟩ := Runs.alloc (C := C) (E := E) c w F hh dst ty pos af gd
  refine ⟨_, w', r1, r2, h.size, rfl, Nat.le_refl _, ?_, ?_⟩
  · rw [r3, hz]; exact push_self _ _
  · rw [r3]; exact (Ext.refl _).push _
theorem RunsU.stB {T E : TypeId} [q : Sc C.P T] {z : Value} {bytes : Nat} [i : Inf C.P T z 1 bytes] {x y : Operand} {b : Nat} {u v : Value} (B : Box h b E u) (hx : opv tm lo x = some (ptr b)) (hy : opv tm lo y = some v) (h1 : oneCell v = true) :
    RunsU C tm lo h (.store T x y) (fun h' => Box h' b E v ∧ Upd b h h') := by
  have hq := q.h
  split at hq
  · rename_i d hd
    intro c w F hh dst ty pos af gd
    obtain ⟨w', r1, r2, r3, r4⟩ := RunsU.st (C := C) (u := ⟨hd⟩) (T := T) hx hy B (by simp) h1 c w F hh dst ty pos af gd
    exact ⟨w', r1, r2, by simpa [Box] using r3, r4⟩
  · cases hq
theorem Upd.ext {b : Nat} {h' : Heap} (u : Upd b h h') : Keeps (fun i => i ≠ b) h h' := ⟨by rw [u.1]; exact Nat.le_refl _, fun i _ q => u.2 i q⟩
end
end Go.Eng
namespace Go.Eng
section
variable {C : Ctx} {K : K3} {tm lo tg : Env} {h : Heap}
theorem RunsV.fa0 {s : TypeId} {f off : Nat} [q : FldAt C.P s f off] {x : Operand} {b : Nat} (hx : opv tm lo x = some (ptr b)) :
    RunsV C tm lo h (.fieldAddr s x f) (.pointer (some ⟨b, off, none⟩)) := by
  have := RunsV.fa (C := C) (h := h) (s := s) (f := f) hx
  simpa using this
theorem RunsV.ia1 (k : Nat) {T E : TypeId} {n : Nat} {x i : Operand} {b o : Nat} {z : Value} {bytes : Nat} {ik : IntKind} {j : Int} [u : Und C.P T (.array n E)] [e : Inf C.P E z 1 bytes] (hk : k < n)
    (hx : opv tm lo x = some (.pointer (some ⟨b, o, none⟩))) (hi : opv tm lo i = some (.int ik j)) (hj : j = (k : Int)) :
    RunsV C tm lo h (.indexAddr T x i) (.pointer (some ⟨b, o + k, none⟩)) := by
  have := RunsV.ia (C := C) (h := h) k hk hx hi hj (T := T) (E := E) (z := z) (sz := 1) (bytes := bytes)
  simpa using this
/-- The byte that a whole number becomes. -/
def toB (a : Int) : UInt8 := UInt8.ofNat (a % 256).toNat
theorem toB_toNat (a : Int) : ((toB a).toNat : Int) = a % 256 := by
  unfold toB
  have h1 : 0 ≤ a % 256 := Int.emod_nonneg _ (by omega)
  have h2 : a % 256 < 256 := Int.emod_lt_of_pos _ (by omega)
  have : (UInt8.ofNat (a % 256).toNat).toNat = (a % 256).toNat := by
    rw [UInt8.toNat_ofNat']
    omega
  rw [this]
  omega
theorem toB_nat (n : Nat) (h : n < 256) : toB (n : Int) = UInt8.ofNat n := by
  unfold toB
  congr 1
  omega
theorem toB_byte (x : UInt8) : toB (x.toNat : Int) = x := by
  have := x.toNat_lt
  rw [toB_nat _ this]
  simp
theorem wrap8 (a : Int) : IntKind.u8.wrap a = a % 256 := by
  simp only [IntKind.wrap, IntKind.bits, IntKind.signed]
  simp
theorem RunsV.cvB {S T : TypeId} {k' : IntKind} {x : Operand} {a : Int} [u : Und C.P T (.int .u8)] {d : TypeDesc} [s : Und C.P S d] (hx : opv tm lo x = some (.int k' a)) :
    RunsV C tm lo h (.convert S T x) (vB (toB a)) := by
  have := RunsV.cvI (C := C) (h := h) d hx (T := T) (S := S)
  rwa [wrap8, ← toB_toNat] at this
end
end Go.Eng
namespace Go.Eng
/-- A struct's layout and its zero. -/
class Lay (P : Program) (T : TypeId) (pl : outParam (Array (Nat × Nat))) (z : outParam (Array Value)) : Prop where
  h : ∀ w, (do
    let zero := (← zeroValue T).cells
    match ← underlying T with
    | .struct fields => do
      let places ← fields.mapM fun f => do pure (f.offset, ← sizeOf f.type)
      pure (zero, places)
    | _ => stuck "" : Sem (Array Value × Array (Nat × Nat))).run P w = .ok (z, pl) w
def partsv (tm lo : Env) : List (Nat × Operand) → Option (List (Nat × Value))
  | [] => some []
  | (i, x) :: r => match opv tm lo x, partsv tm lo r with
    | some v, some vs => some ((i, v) :: vs)
    | _, _ => none
theorem Fits.parts {C : Ctx} {tm lo : Env} {a : Act} (F : Fits C tm lo a) : ∀ {l : List (Nat × Operand)} {vs : List (Nat × Value)}, partsv tm lo l = some vs → l.map (fun q => (q.1, a.eval q.2)) = vs
  | [], vs, h => by simp [partsv] at h; simp [h]
  | (i, x) :: r, vs, h => by
    simp only [partsv] at h
    split at h
    · rename_i v ws hv hws
      simp at h
      subst h
      simp [F.eval hv, F.parts hws]
    · cases h
theorem RunsV.build {C : Ctx} {tm lo : Env} {h : Heap} {T : TypeId} {pl : Array (Nat × Nat)} {z : Array Value} [q : Lay C.P T pl z] {ps : Array (Nat × Operand)} {vs : List (Nat × Value)} (cells : Array Value) (hp : partsv tm lo ps.toList = some vs)
    (hf : Instr.fill (pl[·]?) z vs = some cells) : RunsV C tm lo h (.build T ps) (.agg cells) := fun c w F _ _ _ _ _ _ => by
  have e : (ps.map fun (i, x) => (i, c.eval x)) = vs.toArray := by
    rw [← F.parts hp]; apply Array.ext'; simp
  have hq := q.h w
  simp only [Sem.run_bind] at hq
  simp only [execOp, e, Instr.build, Sem.run_bind]
  cases hz : (zeroValue T).run C.P w with
  | halt x w' => rw [hz] at hq; cases hq
  | ok zv w1 =>
    rw [hz] at hq
    simp only [Result.andThen_ok] at hq ⊢
    cases hu : (underlying T).run C.P w1 with
    | halt x w' => rw [hu] at hq; cases hq
    | ok d w2 =>
      rw [hu] at hq
      simp only [Result.andThen_ok] at hq ⊢
      cases d with
      | struct fields =>
        simp only [Sem.run_bind] at hq ⊢
        cases hm : Sem.run C.P (fields.mapM fun f => do pure (f.offset, ← sizeOf f.type)) w2 with
        | halt x w' => rw [hm] at hq; cases hq
        | ok p w3 =>
          rw [hm] at hq
          simp only [Result.andThen_ok, Sem.run_pure, Result.ok.injEq, Prod.mk.injEq] at hq ⊢
          obtain ⟨⟨rfl, rfl⟩, rfl⟩ := hq
          simp [hf]
      | _ => cases hq
end Go.Eng
namespace Go.Eng
section
variable {C : Ctx} {K : K3} {tm lo tg : Env} {h : Heap}
theorem RunsV.xorN {x y : Operand} {T U : TypeId} {a b : Nat} (hx : opv tm lo x = some (vI a)) (hy : opv tm lo y = some (vI b)) (ha : a < 4611686018427387904) (hb : b < 4611686018427387904) :
    RunsV C tm lo h (.binOp .xor T x y U) (vI ((a ^^^ b : Nat))) :=
  RunsV.p (by
    have hl : a ^^^ b < 4611686018427387904 := Nat.xor_lt_two_pow (n := 62) ha hb
    have e : ∀ n : Nat, n < 4611686018427387904 → (BitVec.ofInt 64 (n : Int)).toNat = n := fun n hn => by
      simp [BitVec.toNat_ofInt]
      omega
    simp only [pureOp, hx, hy, eqk, intBin, cond_true]
    show some (Value.int .i64 (IntKind.i64.wrap ((BitVec.ofInt 64 (a : Int) ^^^ BitVec.ofInt 64 (b : Int)).toNat : Int))) = _
    rw [BitVec.toNat_xor, e a ha, e b hb, wrap64_of (by omega) (by omega)])
theorem RunsV.shl1 {x y : Operand} {T U : TypeId} {a : Int} (hx : opv tm lo x = some (vI a)) (hy : opv tm lo y = some (.int .u64 1)) (hb : -4611686018427387904 ≤ a ∧ a < 4611686018427387904) :
    RunsV C tm lo h (.binOp .shl T x y U) (vI (2 * a)) := by
  have := RunsV.shl (C := C) (h := h) (T := T) (U := U) hx hy (by omega)
  simp only [IntKind.bits] at this
  rw [show a * 2 ^ min (1 : Int).toNat 64 = 2 * a by simp; omega, wrap64_of (by omega) (by omega)] at this
  exact this
end
end Go.Eng
namespace Go.Eng
theorem RunsV.to {C : Ctx} {tm lo : Env} {h : Heap} {op : Op} {v v' : Value} (R : RunsV C tm lo h op v) (e : v = v') : RunsV C tm lo h op v' := e ▸ R
theorem RunsV.remN {C : Ctx} {tm lo : Env} {h : Heap} {x y : Operand} {T U : TypeId} {a b : Nat} (hx : opv tm lo x = some (vI a)) (hy : opv tm lo y = some (vI b)) (hb : b ≠ 0) :
    RunsV C tm lo h (.binOp .rem T x y U) (vI ((a % b : Nat))) := by
  have := RunsV.rem (C := C) (h := h) (T := T) (U := U) hx hy (by omega)
  rwa [← Int.ofNat_tmod] at this
theorem RunsV.quoN {C : Ctx} {tm lo : Env} {h : Heap} {x y : Operand} {T U : TypeId} {a b : Nat} (hx : opv tm lo x = some (vI a)) (hy : opv tm lo y = some (vI b)) (hb : b ≠ 0) (ha : a < 4611686018427387904) :
    RunsV C tm lo h (.binOp .quo T x y U) (vI ((a / b : Nat))) := by
  have hle : a / b ≤ a := Nat.div_le_self a b
  have e : ((a : Int).tdiv (b : Int)) = ((a / b : Nat) : Int) := (Int.ofNat_tdiv a b).symm
  have := RunsV.quo (C := C) (h := h) (T := T) (U := U) hx hy (by omega) (by rw [e]; clear e; generalize a / b = q at *; omega)
  rwa [e] at this
end Go.Eng
