/- Steps of the proof: lemmas for every input, without conditions but those that each states. -/
import Derived.Test.YtjpgcjbcfodicaaPol
import Derived.Test.YtjpgcjbcfodicaaSyn
set_option linter.unusedSimpArgs false
set_option linter.unusedVariables false
namespace Go.Eng
/-! ### A region in which several operations that make new blocks come up at once -/
structure GO where
  i : Nat
  d : Nat
  Φ : Value → Heap → Prop
  tc : Bool := true
/-- The block that a pointer or a slice leads to. -/
def blkOf : Value → Option Nat
  | .pointer (some a) => some a.block
  | .slice (some a) _ _ => some a.block
  | _ => none
/-- It yields a value, and only adds blocks, wherever blocks were added. -/
def GrowR (C : Ctx) (ol : List Oper) (tm lo : Env) (h : Heap) (g : GO) : Prop :=
  (bif g.tc then C.isT g.d else C.isL g.d) = true ∧ (bif g.tc then look tm g.d else look lo g.d) = none ∧ (∀ v h1 h2, g.Φ v h1 → Ext h1 h2 → g.Φ v h2) ∧
  ∃ o, nth ol g.i = some o ∧ o.dst = some g.d ∧ o.guard = none ∧
    ∀ a w, Fits C tm lo a → Ext h w.heap → ∀ Q, o.wp C.P a w (fun a' w' => ∃ v, a' = a.put (some g.d) v ∧ Rest w w' ∧ g.Φ v w'.heap ∧ Ext w.heap w'.heap ∧ ∀ b, blkOf v = some b → w.heap.size ≤ b ∧ b < w'.heap.size) Q
def okPar (ops : Array Oper) (e : Nat) (σ : List (Bool × Nat)) : Nat → List Nat → Array Bool → Bool
  | 0, rest, listed => rest.isEmpty && okSeq ops e σ listed
  | k + 1, rest, listed => (Region.ready .any ops listed == rest) && rest.all fun i => (i != e) && okPar ops e σ k (rest.erase i) (listed.setIfInBounds i true)
def okG (ops : Array Oper) (e : Nat) (L : List Nat) (σ : List (Bool × Nat)) : List Nat → Array Bool → Bool
  | [], listed => okPar ops e σ L.length L listed
  | i :: r, listed => (i != e && waitsE ops e i && Region.free .any ops listed i && (Region.ready .any ops listed).contains i) && okG ops e L σ r (listed.setIfInBounds i true)
def WQG (C : Ctx) (ops : Array Oper) (e : Nat) (S : Heap → Prop) (σ1 : List Nat) (L : List Nat) (σ : List (Bool × Nat)) (K : K3) (tm lo : Env) (h : Heap) : Prop :=
  ∀ listed, okG ops e L σ σ1 listed = true → Region.noSelect ops = true → panicFlat K → S h → ∀ w0 a w, Rest w0 w → w.heap = h → Fits C tm lo a →
    AnyE C.P ops (lift C w0 K) (fun w => Rest w0 w ∧ S w.heap) e (σ1.length + (L.length + σ.length)) listed a w
section
variable {C : Ctx} {K : K3} {tm lo : Env} {h : Heap} {ol : List Oper} {e : Nat} {S : Heap → Prop} {σ1 L : List Nat} {σ : List (Bool × Nat)} {op : Op} {ty : TypeId} {pos : String} {af : Array Edge} {i : Nat}
theorem WQG.q {d : Nat} {v : Value} (ho : nth ol i = some ⟨some d, op, ty, pos, af, none⟩) (hp : ∀ h', S h' → RunsV C tm lo h' op v) (hd : C.isT d = true) (H : WQG C ol.toArray e S σ1 L σ K ((d, v) :: tm) lo h) :
    WQG C ol.toArray e S (i :: σ1) L σ K tm lo h := by
  intro listed ok hs hK hS w0 a w hr hh F
  simp only [okG, Bool.and_eq_true, bne_iff_ne] at ok
  obtain ⟨⟨⟨⟨o4, o5⟩, o1⟩, o2⟩, o3⟩ := ok
  rw [nth_eq] at ho
  have hi : ol.toArray[i]? = some ⟨some d, op, ty, pos, af, none⟩ := by simpa using ho
  have e1 : (i :: σ1).length + (L.length + σ.length) = (σ1.length + (L.length + σ.length)) + 1 := by simp; omega
  rw [e1]
  exact AnyE.first hi hs (lift_panic hK _ _) o5 o4 _ _ _ _ o1 (by simpa using o2) (.inl ⟨by simp [Region.wanted], fun w' hw' => hp w'.heap hw'.2 a w' F rfl _ _ _ _ _⟩) ⟨hr, hh ▸ hS⟩
    (H _ o3 hs hK hS w0 _ w hr hh (F.putT hd v))
theorem WQG.s {d : Nat} {v : Value} (ho : nth ol i = some ⟨some d, op, ty, pos, af, none⟩) (hp : pureOp tm lo op = some v) (hd : C.isT d = true) (H : WQG C ol.toArray e S σ1 L σ K ((d, v) :: tm) lo h) :
    WQG C ol.toArray e S (i :: σ1) L σ K tm lo h := WQG.q ho (fun _ _ => RunsV.p hp) hd H
theorem Own.blkOf {h : Heap} {base T sz n : Nat} {v : Value} {xs : List Value} (o : Own h base T sz v n xs) {b : Nat} (e : Eng.blkOf v = some b) : base ≤ b ∧ b < h.size := by
  rcases o.2 with ⟨rfl, _⟩ | ⟨g, cap, cur, rfl, hb, hg, r⟩
  · cases e
  · simp [Eng.blkOf] at e; subst e; exact ⟨hb, (Array.getElem?_eq_some_iff.1 hg).1⟩
theorem GrowR.runs (tc : Bool) {d : Nat} {Φ : Value → Heap → Prop} (ho : nth ol i = some ⟨some d, op, ty, pos, af, none⟩) (hd : (bif tc then C.isT d else C.isL d) = true) (hn : (bif tc then look tm d else look lo d) = none) (hΦ : ∀ v h1 h2, Φ v h1 → Ext h1 h2 → Φ v h2)
    (hR : ∀ h', Ext h h' → Runs C tm lo h' op (fun v h'' => Φ v h'' ∧ Ext h' h'' ∧ ∀ b, blkOf v = some b → h'.size ≤ b ∧ b < h''.size)) : GrowR C ol tm lo h ⟨i, d, Φ, tc⟩ :=
  ⟨hd, hn, hΦ, _, ho, rfl, rfl, fun a w F X Q => by
    obtain ⟨v, w', r1, r2, r3, r4, r5⟩ := hR w.heap X a w F rfl (some d) ty pos af none
    unfold Oper.wp
    rw [r1, Oper.upon_value]
    exact ⟨v, rfl, r2, r3, r4, r5⟩⟩
theorem GrowR.call (tc : Bool) {d : Nat} {f : Operand} {args : Array Operand} {ats : Array TypeId} {g : FuncId} {l : List Value} [q : Fun C.P g] {Φ : Value → Heap → Prop} (ho : nth ol i = some ⟨some d, .call { callee := .value f, args, argTypes := ats }, ty, pos, af, none⟩)
    (hf : opv tm lo f = some (.func (.func g) #[] #[])) (ha : opvs tm lo args.toList = some l) (hd : (bif tc then C.isT d else C.isL d) = true) (hn : (bif tc then look tm d else look lo d) = none) (hΦ : ∀ v h1 h2, Φ v h1 → Ext h1 h2 → Φ v h2)
    (hR : ∀ h', Ext h h' → Spec C.P g l.toArray h' (fun v h'' => Φ v h'' ∧ Ext h' h'' ∧ ∀ b, blkOf v = some b → h'.size ≤ b ∧ b < h''.size)) : GrowR C ol tm lo h ⟨i, d, Φ, tc⟩ :=
  ⟨hd, hn, hΦ, _, ho, rfl, rfl, fun a w F X Q => by
    unfold Oper.wp
    rw [call_run F w hf ha, Oper.upon_enter]
    simp only [Array.append_empty]
    refine (hR w.heap X w rfl).mono ?_
    rintro x w' ⟨r1, p⟩
    cases x with
    | returned v => exact ⟨v, rfl, r1, p.1, p.2.1, p.2.2⟩
    | panicked ch => exact p.elim
    | outgrown => exact p.elim⟩
def Got : List GO → List Value → Heap → Prop
  | [], [], _ => True
  | g :: G, v :: vs, h => g.Φ v h ∧ Got G vs h
  | _, _, _ => False
def putT : List GO → List Value → Env → Env
  | g :: G, v :: vs, tm => bif g.tc then (g.d, v) :: putT G vs tm else putT G vs tm
  | _, _, tm => tm
def putL : List GO → List Value → Env → Env
  | g :: G, v :: vs, lo => bif g.tc then putL G vs lo else (g.d, v) :: putL G vs lo
  | _, _, lo => lo
def Vals (a : Act) : List GO → List Value → Prop
  | [], [] => True
  | g :: G, v :: vs => a.tmps[g.d]? = some v ∧ Vals a G vs
  | _, _ => False
theorem Fits.putG {a : Act} (F : Fits C tm lo a) : ∀ (G : List GO) (vs : List Value), (∀ g ∈ G, (bif g.tc then C.isT g.d else C.isL g.d) = true) → Vals a G vs → Fits C (Eng.putT G vs tm) (Eng.putL G vs lo) a
  | [], [], _, _ => by simpa [Eng.putT, Eng.putL] using F
  | [], _ :: _, _, h => h.elim
  | g :: G, [], _, h => h.elim
  | g :: G, v :: vs, hT, ⟨h1, h2⟩ => by
    have ih := F.putG G vs (fun g' hg => hT g' (by simp [hg])) h2
    have hk := hT g (by simp)
    cases c : g.tc with
    | true =>
      rw [c] at hk
      have ht := (Ctx.isT_iff.1 hk).2
      simp only [Eng.putT, Eng.putL, c, cond_true]
      refine ⟨ih.size, ih.defers, fun t u q => ?_, ih.lo_⟩
      simp only [look] at q
      by_cases c : t = g.d
      · subst c
        rw [beq_self] at q
        simp at q
        subst q
        exact ⟨h1, ht⟩
      · rw [beq_ne c] at q
        exact ih.tm_ t u q
    | false =>
      rw [c] at hk
      have ht := (Ctx.isL_iff.1 hk).2
      simp only [Eng.putT, Eng.putL, c, cond_false]
      refine ⟨ih.size, ih.defers, ih.tm_, fun t u q => ?_⟩
      simp only [look] at q
      by_cases c : t = g.d
      · subst c
        rw [beq_self] at q
        simp at q
        subst q
        exact ⟨h1, ht⟩
      · rw [beq_ne c] at q
        exact ih.lo_ t u q
theorem Fits.fresh {a : Act} (F : Fits C tm lo a) {d : Nat} {tc : Bool} (hd : (bif tc then C.isT d else C.isL d) = true) (hn : (bif tc then look tm d else look lo d) = none) (v : Value) : Fits C tm lo (a.put (some d) v) := by
  cases tc with
  | true => exact F.cons_undef hd hn v
  | false =>
    have G := F.putL hd v
    refine ⟨G.size, G.defers, G.tm_, fun t u e => G.lo_ t u ?_⟩
    have : t ≠ d := fun q => by subst q; simp only [cond_false] at hn; rw [hn] at e; cases e
    simp only [look]
    rw [beq_ne this]
    exact e
theorem Got.of {a : Act} {h : Heap} : ∀ (G : List GO), (∀ g ∈ G, ∃ v, a.tmps[g.d]? = some v ∧ g.Φ v h) → ∃ vs, Vals a G vs ∧ Got G vs h
  | [], _ => ⟨[], trivial, trivial⟩
  | g :: G, H => by
    obtain ⟨v, h1, h2⟩ := H g (by simp)
    obtain ⟨vs, h3, h4⟩ := Got.of G fun g' hg => H g' (by simp [hg])
    exact ⟨v :: vs, ⟨h1, h3⟩, h2, h4⟩
/-- No block is that of two pointers. -/
def Dist (vs : List Value) : Prop := vs.Pairwise fun x y => ∀ b, blkOf x = some b → blkOf y ≠ some b
theorem Dist.of {a : Act} : ∀ {G : List GO} {vs : List Value}, Vals a G vs → (G.Pairwise fun x y => ∀ b u w, a.tmps[x.d]? = some u → a.tmps[y.d]? = some w → blkOf u = some b → blkOf w ≠ some b) → Dist vs
  | [], [], _, _ => .nil
  | [], _ :: _, h, _ => h.elim
  | _ :: _, [], h, _ => h.elim
  | g :: G, v :: vs, ⟨h1, h2⟩, hp => by
    rw [List.pairwise_cons] at hp
    refine List.Pairwise.cons ?_ (Dist.of h2 hp.2)
    intro u hu b hb hc
    have : ∀ {G : List GO} {vs : List Value}, Vals a G vs → u ∈ vs → ∃ g ∈ G, a.tmps[g.d]? = some u := by
      intro G
      induction G with
      | nil => intro vs hv hm; cases vs with
        | nil => cases hm
        | cons _ _ => exact hv.elim
      | cons g G ih =>
        intro vs hv hm
        cases vs with
        | nil => exact hv.elim
        | cons w vs =>
          rcases List.mem_cons.1 hm with rfl | hm
          · exact ⟨g, by simp, hv.1⟩
          · obtain ⟨g', q1, q2⟩ := ih hv.2 hm
            exact ⟨g', by simp [q1], q2⟩
    obtain ⟨g', q1, q2⟩ := this h2 hu
    exact hp.1 g' q1 b v u h1 q2 hb hc
theorem pair_of {α : Type} {R : α → α → Prop} : ∀ {l : List α}, l.Pairwise R → ∀ {x y}, x ∈ l → y ∈ l → x = y ∨ R x y ∨ R y x
  | [], _, x, y, hx, _ => by cases hx
  | a :: l, h, x, y, hx, hy => by
    rw [List.pairwise_cons] at h
    rcases List.mem_cons.1 hx with rfl | hx'
    · rcases List.mem_cons.1 hy with rfl | hy'
      · exact .inl rfl
      · exact .inr (.inl (h.1 y hy'))
    · rcases List.mem_cons.1 hy with rfl | hy'
      · exact .inr (.inr (h.1 x hx'))
      · exact pair_of h.2 hx' hy'
theorem par_step (G : List GO) (hG : ∀ g ∈ G, GrowR C ol tm lo h g) (hdd : G.Pairwise fun x y => x.d ≠ y.d ∧ x.i ≠ y.i) (hS : ∀ h', Ext h h' → S h')
    (H : ∀ vs h', Ext h h' → Dist vs → Got G vs h' → WQ C ol.toArray e S σ K (putT G vs tm) (putL G vs lo) h') (hs : Region.noSelect ol.toArray = true) (hK : panicFlat K) (w0 : World) :
    ∀ (k : Nat) (rest : List Nat) (listed : Array Bool) (a : Act) (w : World), okPar ol.toArray e σ k rest listed = true → rest.length = k → rest.Nodup → (∀ i ∈ rest, ∃ g ∈ G, g.i = i) → Rest w0 w → Ext h w.heap → Fits C tm lo a →
      (∀ g ∈ G, g.i ∉ rest → ∃ v, a.tmps[g.d]? = some v ∧ g.Φ v w.heap ∧ ∀ b, blkOf v = some b → b < w.heap.size) →
      (∀ g ∈ G, ∀ g' ∈ G, g.i ∉ rest → g'.i ∉ rest → g.i ≠ g'.i → ∀ b u u', a.tmps[g.d]? = some u → a.tmps[g'.d]? = some u' → blkOf u = some b → blkOf u' ≠ some b) → AnyE C.P ol.toArray (lift C w0 K) (fun w => Rest w0 w ∧ S w.heap) e (k + σ.length) listed a w
  | 0, rest, listed, a, w, ok, hl, _, hrest, hr, X, F, D, E => by
    have : rest = [] := List.eq_nil_of_length_eq_zero hl
    subst this
    simp only [okPar, List.isEmpty_nil, Bool.true_and] at ok
    obtain ⟨vs, h1, h2⟩ := Got.of G fun g hg => let ⟨v, q1, q2, _⟩ := D g hg (by simp); ⟨v, q1, q2⟩
    have hdist : Dist vs := Dist.of h1 (List.Pairwise.imp_of_mem (fun {x y} hx hy q => E x hx y hy (by simp) (by simp) q.2) hdd)
    rw [Nat.zero_add]
    exact H vs w.heap X hdist h2 listed ok hs hK (fun _ => hS _ X) w0 a w hr rfl (F.putG G vs (fun g hg => (hG g hg).1) h1)
  | k + 1, rest, listed, a, w, ok, hl, hnd, hrest, hr, X, F, D, E => by
    simp only [okPar, Bool.and_eq_true, beq_iff_eq, List.all_eq_true, bne_iff_ne] at ok
    obtain ⟨o1, o2⟩ := ok
    rw [Nat.add_right_comm]
    refine ⟨fun q => ?_, fun j hj => ?_⟩
    · rw [o1] at q; subst q; simp at hl
    · rw [o1] at hj
      obtain ⟨g, hg, rfl⟩ := hrest j hj
      obtain ⟨oe, o3⟩ := o2 g.i hj
      obtain ⟨g1, g2, g3, o, g4, g5, g6, g7⟩ := hG g hg
      rw [nth_eq] at g4
      have hi : ol.toArray[g.i]? = some o := by simpa using g4
      unfold wpOp
      simp only [hi]
      rw [if_pos (by simp [Region.wanted, g6])]
      left
      refine Oper.wp_mono ?_ (g7 a w F X _)
      rintro a' w' ⟨v, rfl, r2, r3, r4, r5⟩
      have X' := X.trans r4
      have hlt : ∀ g' ∈ G, g'.d < C.n := fun g' hg' => by
        have q1 := (hG g' hg').1
        cases c : g'.tc with
        | true => rw [c] at q1; exact (Ctx.isT_iff.1 q1).1
        | false => rw [c] at q1; exact (Ctx.isL_iff.1 q1).1
      have hself : (a.put (some g.d) v).tmps[g.d]? = some v := by simp [Act.put, F.size, hlt g hg]
      have hother : ∀ g' ∈ G, g'.i ≠ g.i → (a.put (some g.d) v).tmps[g'.d]? = a.tmps[g'.d]? := fun g' hg' c => by
        have hne : g'.d ≠ g.d := by
          rcases pair_of hdd hg' hg with t | t | t
          · exact absurd (congrArg GO.i t) c
          · exact t.1
          · exact t.1.symm
        simp [Act.put, Ne.symm hne]
      have hsame : ∀ g' ∈ G, g'.i = g.i → g' = g := fun g' hg' c => by
        rcases pair_of hdd hg' hg with t | t | t
        · exact t
        · exact absurd c t.2
        · exact absurd c.symm t.2
      refine ⟨fun _ => ⟨hr.trans r2, hS _ X'⟩, par_step G hG hdd hS H hs hK w0 k (rest.erase g.i) _ _ w' o3 (by rw [List.length_erase_of_mem hj]; omega) (hnd.erase _) (fun i hi => hrest i (List.mem_of_mem_erase hi)) (hr.trans r2) X' (F.fresh g1 g2 v) ?_ ?_⟩
      · intro g' hg' hn
        by_cases c : g'.i = g.i
        · rw [hsame g' hg' c]
          exact ⟨v, hself, r3, fun b hb => (r5 b hb).2⟩
        · obtain ⟨u, d1, d2, d3⟩ := D g' hg' (fun q => hn ((List.mem_erase_of_ne c).2 q))
          exact ⟨u, by rw [hother g' hg' c, d1], (hG g' hg').2.2.1 _ _ _ d2 r4, fun b hb => Nat.lt_of_lt_of_le (d3 b hb) r4.size⟩
      · intro x hx y hy nx ny ne b u1 u2 h1 h2 h3 h4
        have old : ∀ z ∈ G, z.i ∉ rest.erase g.i → z.i ≠ g.i → ∀ u, (a.put (some g.d) v).tmps[z.d]? = some u → blkOf u = some b → b < w.heap.size := fun z hz nz cz u q q' => by
          rw [hother z hz cz] at q
          obtain ⟨u', d1, _, d3⟩ := D z hz (fun q => nz ((List.mem_erase_of_ne cz).2 q))
          rw [d1] at q
          simp at q
          subst q
          exact d3 b q'
        by_cases cx : x.i = g.i
        · have cy : y.i ≠ g.i := fun q => ne (cx.trans q.symm)
          rw [hsame x hx cx, hself] at h1
          simp at h1; subst h1
          have := (r5 b h3).1
          have := old y hy ny cy u2 h2 h4
          omega
        · by_cases cy : y.i = g.i
          · rw [hsame y hy cy, hself] at h2
            simp at h2; subst h2
            have := (r5 b h4).1
            have := old x hx nx cx u1 h1 h3
            omega
          · rw [hother x hx cx] at h1
            rw [hother y hy cy] at h2
            exact E x hx y hy (fun q => nx ((List.mem_erase_of_ne cx).2 q)) (fun q => ny ((List.mem_erase_of_ne cy).2 q)) ne b u1 u2 h1 h2 h3 h4
theorem WQG.par (G : List GO) (hL : G.map (·.i) = L) (hnd : L.Nodup) (hG : ∀ g ∈ G, GrowR C ol tm lo h g) (hdd : G.Pairwise fun x y => x.d ≠ y.d ∧ x.i ≠ y.i) (hS : ∀ h', Ext h h' → S h')
    (H : ∀ vs h', Ext h h' → Dist vs → Got G vs h' → WQ C ol.toArray e S σ K (putT G vs tm) (putL G vs lo) h') : WQG C ol.toArray e S [] L σ K tm lo h := by
  intro listed ok hs hK _ w0 a w hr hh F
  subst hh
  have := par_step G hG hdd hS H hs hK w0 L.length L listed a w ok rfl hnd (fun i hi => by rw [← hL, List.mem_map] at hi; obtain ⟨g, h1, h2⟩ := hi; exact ⟨g, h1, h2⟩) hr (Ext.refl _) F (fun g hg hn => absurd (by rw [← hL]; exact List.mem_map_of_mem hg) hn) (fun g hg _ _ hn => absurd (by rw [← hL]; exact List.mem_map_of_mem hg) hn)
  simpa using this
theorem WQG.par2 {g1 g2 : GO} (hL : [g1.i, g2.i] = L) (hnd : L.Nodup) (h1 : GrowR C ol tm lo h g1) (h2 : GrowR C ol tm lo h g2) (hdd : [g1, g2].Pairwise fun x y => x.d ≠ y.d ∧ x.i ≠ y.i) (hS : ∀ h', Ext h h' → S h')
    (H : ∀ v1 v2 h', Ext h h' → Dist [v1, v2] → g1.Φ v1 h' → g2.Φ v2 h' → WQ C ol.toArray e S σ K (putT [g1, g2] [v1, v2] tm) (putL [g1, g2] [v1, v2] lo) h') : WQG C ol.toArray e S [] L σ K tm lo h :=
  WQG.par [g1, g2] hL hnd (by intro g hg; simp at hg; rcases hg with rfl | rfl <;> assumption) hdd hS fun vs h' X D q => by
    match vs, D, q with
    | [v1, v2], D, ⟨q1, q2, _⟩ => exact H v1 v2 h' X D q1 q2
theorem WQG.par3 {g1 g2 g3 : GO} (hL : [g1.i, g2.i, g3.i] = L) (hnd : L.Nodup) (h1 : GrowR C ol tm lo h g1) (h2 : GrowR C ol tm lo h g2) (h3 : GrowR C ol tm lo h g3) (hdd : [g1, g2, g3].Pairwise fun x y => x.d ≠ y.d ∧ x.i ≠ y.i) (hS : ∀ h', Ext h h' → S h')
    (H : ∀ v1 v2 v3 h', Ext h h' → Dist [v1, v2, v3] → g1.Φ v1 h' → g2.Φ v2 h' → g3.Φ v3 h' → WQ C ol.toArray e S σ K (putT [g1, g2, g3] [v1, v2, v3] tm) (putL [g1, g2, g3] [v1, v2, v3] lo) h') : WQG C ol.toArray e S [] L σ K tm lo h :=
  WQG.par [g1, g2, g3] hL hnd (by intro g hg; simp at hg; rcases hg with rfl | rfl | rfl <;> assumption) hdd hS fun vs h' X D q => by
    match vs, D, q with
    | [v1, v2, v3], D, ⟨q1, q2, q3, _⟩ => exact H v1 v2 v3 h' X D q1 q2 q3
theorem WQG.par4 {g1 g2 g3 g4 : GO} (hL : [g1.i, g2.i, g3.i, g4.i] = L) (hnd : L.Nodup) (h1 : GrowR C ol tm lo h g1) (h2 : GrowR C ol tm lo h g2) (h3 : GrowR C ol tm lo h g3) (h4 : GrowR C ol tm lo h g4)
    (hdd : [g1, g2, g3, g4].Pairwise fun x y => x.d ≠ y.d ∧ x.i ≠ y.i) (hS : ∀ h', Ext h h' → S h')
    (H : ∀ v1 v2 v3 v4 h', Ext h h' → Dist [v1, v2, v3, v4] → g1.Φ v1 h' → g2.Φ v2 h' → g3.Φ v3 h' → g4.Φ v4 h' → WQ C ol.toArray e S σ K (putT [g1, g2, g3, g4] [v1, v2, v3, v4] tm) (putL [g1, g2, g3, g4] [v1, v2, v3, v4] lo) h') : WQG C ol.toArray e S [] L σ K tm lo h :=
  WQG.par [g1, g2, g3, g4] hL hnd (by intro g hg; simp at hg; rcases hg with rfl | rfl | rfl | rfl <;> assumption) hdd hS fun vs h' X D q => by
    match vs, D, q with
    | [v1, v2, v3, v4], D, ⟨q1, q2, q3, q4, _⟩ => exact H v1 v2 v3 v4 h' X D q1 q2 q3 q4
/-- A region of open order in which the operations L come up at once, behind those of σ1 and ahead of those of σ. -/
theorem WC.drawG {id : Nat} [m : Mixed C.P] (e : Nat) (σ1 L : List Nat) (σ : List (Bool × Nat)) (S : Heap → Prop) (hok : (okG ol.toArray e L σ σ1 (Array.replicate ol.toArray.size false) && Region.noSelect ol.toArray && ((σ1.length + (L.length + σ.length)) == ol.toArray.size)) = true) (hK : panicFlat K) (hS : S h)
    (H : WQG C ol.toArray e S σ1 L σ K [] lo h) : WC C (.region id ol.toArray true) K tm lo h := by
  intro w0 a w hr hh F
  simp only [Bool.and_eq_true, beq_iff_eq] at hok
  obtain ⟨⟨h1, h2⟩, h3⟩ := hok
  refine wp_region_any m.h (AnyE.any (S := fun w => Rest w0 w ∧ S w.heap) (e := e) _ _ _ _ ?_)
  have := H _ h1 h2 hK hS w0 a { w with drawn := w.drawn + 1 } ⟨hr.os, hr.output, hr.tape⟩ hh F.drop
  rw [h3] at this
  exact this
end
end Go.Eng
namespace Go.Eng
/-! ### S is what reads rest on until the operation e is done -/
section
variable {P : Program} {ops : Array Oper} {Q : Exit → Act → World → Prop} {S : World → Prop} {e : Nat}
def AnyF (P : Program) (ops : Array Oper) (Q : Exit → Act → World → Prop) (S : World → Prop) (e : Nat) : Nat → Array Bool → Act → World → Prop
  | 0, listed, a, w => Region.ready .any ops listed = [] ∧ Q .normal a w
  | fuel + 1, listed, a, w =>
    (Region.ready .any ops listed = [] → Q .normal a w) ∧
    ∀ i ∈ Region.ready .any ops listed, wpOp P ops Q i (fun a' w' => ((listed.setIfInBounds i true).getD e false = false → S w') ∧ AnyF P ops Q S e fuel (listed.setIfInBounds i true) a' w') a w
theorem AnyF.any : ∀ (fuel : Nat) (listed : Array Bool) (a : Act) (w : World), AnyF P ops Q S e fuel listed a w → wpAny P .any ops Q fuel listed a w
  | 0, _, _, _, h => h
  | fuel + 1, _, _, _, h => ⟨h.1, fun i hi => wpOp_mono (fun a' w' h' => AnyF.any fuel _ a' w' h'.2) (h.2 i hi)⟩
/-- e waits for i, maybe through others that are not done. -/
def waitsC (ops : Array Oper) (listed : Array Bool) : Nat → Nat → Nat → Bool
  | 0, e, i => waitsE ops e i
  | n + 1, e, i => waitsE ops e i || (List.range ops.size).any fun x => waitsE ops e x && !(listed.getD x true) && waitsC ops listed n x i
theorem waitsC_not {listed : Array Bool} {i : Nat} (hi : listed.getD i true = false) : ∀ {n e : Nat}, waitsC ops listed n e i = true → e ∉ Region.ready .any ops listed
  | 0, e, h => notReady h hi
  | n + 1, e, h => by
    rw [waitsC, Bool.or_eq_true, List.any_eq_true] at h
    rcases h with h | ⟨x, _, h⟩
    · exact notReady h hi
    · simp only [Bool.and_eq_true, Bool.not_eq_true'] at h
      exact notReady h.1.1 h.1.2
theorem waitsC_set {listed : Array Bool} {i j : Nat} (hi : listed.getD i true = false) (hj : j ∈ Region.ready .any ops listed) : ∀ {n e : Nat}, waitsC ops listed n e i = true → waitsC ops (listed.setIfInBounds j true) n e i = true
  | 0, e, h => h
  | n + 1, e, h => by
    rw [waitsC, Bool.or_eq_true, List.any_eq_true] at h ⊢
    rcases h with h | ⟨x, hx, h⟩
    · exact .inl h
    · simp only [Bool.and_eq_true, Bool.not_eq_true'] at h
      refine .inr ⟨x, hx, ?_⟩
      have hne : j ≠ x := fun q => waitsC_not hi h.2 (q ▸ hj)
      simp only [Bool.and_eq_true, Bool.not_eq_true']
      refine ⟨⟨h.1.1, ?_⟩, waitsC_set hi hj h.2⟩
      rw [getD_set_ne true hne]; exact h.1.2
theorem getD_set_f {l : Array Bool} {i e : Nat} (h : l.getD e false = false) (ne : i ≠ e) : (l.setIfInBounds i true).getD e false = false := by
  simp only [Array.getD_eq_getD_getElem?] at h ⊢
  rw [Array.getElem?_setIfInBounds_ne ne]; exact h
theorem getD_unset {l : Array Bool} {i e : Nat} (h : (l.setIfInBounds i true).getD e false = false) : l.getD e false = false := by
  by_cases q : i = e
  · subst q
    simp only [Array.getD_eq_getD_getElem?] at h ⊢
    by_cases c : i < l.size
    · simp [c] at h
    · simp [Array.getElem?_eq_none (Nat.le_of_not_lt c)]
  · simp only [Array.getD_eq_getD_getElem?] at h ⊢
    rw [Array.getElem?_setIfInBounds_ne q] at h; exact h
/-- i's yield rests on T: on nothing (r = false), or on S as long as e, which waits for i, is not done. -/
theorem AnyF.first {i : Nat} {oi : Oper} {v : Value} (r : Bool) (hi : ops[i]? = some oi) (hs : Region.noSelect ops = true) (hQ : ∀ c a w, Q (.panic c) (a.put oi.dst v) w → Q (.panic c) a w) (hne : i ≠ e) :
    ∀ (fuel : Nat) (listed : Array Bool) (a : Act) (w : World), Region.free .any ops listed i = true → i ∈ Region.ready .any ops listed → YieldsIf P ops (fun w => r = true → S w) oi v a → (r = true → listed.getD e false = false ∧ waitsC ops listed 4 e i = true) → (listed.getD e false = false → S w) →
      AnyF P ops Q S e fuel (listed.setIfInBounds i true) (a.put oi.dst v) w → AnyF P ops Q S e (fuel + 1) listed a w := by
  have hsel := fun j o cs b => Region.noSelect_spec hs j o cs b
  suffices H : ∀ (fuel : Nat) (listed : Array Bool) (a : Act) (w : World),
      (∀ j oj, ops[j]? = some oj → j ≠ i → listed.getD j true = false → (∀ x ∈ oj.after, Region.binds .any x = true → x.on ≠ i) → oi.apart ops oj = true) →
      i ∈ Region.ready .any ops listed → YieldsIf P ops (fun w => r = true → S w) oi v a → (r = true → listed.getD e false = false ∧ waitsC ops listed 4 e i = true) → (listed.getD e false = false → S w) →
      AnyF P ops Q S e fuel (listed.setIfInBounds i true) (a.put oi.dst v) w → AnyF P ops Q S e (fuel + 1) listed a w from
    fun fuel listed a w hf => H fuel listed a w (Region.free_spec hi hf)
  intro fuel
  induction fuel with
  | zero =>
    intro listed a w _ hr hy hl hS H
    refine ⟨fun h => (by rw [h] at hr; cases hr), fun j hj => ?_⟩
    by_cases hji : j = i
    · subst hji; exact hy.wpOp hi (fun q => hS (hl q).1) ⟨fun q => hS (getD_unset q), H⟩
    · have := ready_mono hj hji
      rw [H.1] at this
      cases this
  | succ fuel ih =>
    intro listed a w hfree hr hy hl hS H
    refine ⟨fun h => (by rw [h] at hr; cases hr), fun j hj => ?_⟩
    by_cases hji : j = i
    · subst hji; exact hy.wpOp hi (fun q => hS (hl q).1) ⟨fun q => hS (getD_unset q), H⟩
    · have hil := (mem_ready.1 hr).1
      have hje : r = true → j ≠ e := fun q1 q => waitsC_not hil (hl q1).2 (q ▸ hj)
      have h1 := H.2 j (ready_mono hj hji)
      obtain ⟨hjun, oj, hoj, hall⟩ := mem_ready.1 hj
      have hnot : ∀ x ∈ oj.after, Region.binds .any x = true → x.on ≠ i := fun x hx hb heq => by
        have h1 := hall x hx hb
        rw [heq] at h1
        rcases Nat.lt_or_ge i listed.size with q | q
        · simp [q] at hil h1; rw [hil] at h1; cases h1
        · simp [Array.getElem?_eq_none q] at h1
      have h2 := wpOp_putIf hoj (hfree j oj hoj hji hjun hnot) (fun cs b => hsel i oi cs b hi) (fun cs b => hsel j oj cs b hoj) hQ hy h1
      have hfree' : ∀ k ok, ops[k]? = some ok → k ≠ i → (listed.setIfInBounds j true).getD k true = false →
          (∀ x ∈ ok.after, Region.binds .any x = true → x.on ≠ i) → oi.apart ops ok = true := fun k ok hk hki hun hno => by
        refine hfree k ok hk hki ?_ hno
        by_cases hjk : j = k
        · subst hjk; exact hjun
        · rw [getD_set_ne true hjk] at hun; exact hun
      have hcl : ∀ w', (((listed.setIfInBounds i true).setIfInBounds j true).getD e false = false → S w') → ((listed.setIfInBounds j true).getD e false = false → S w') := fun w' q q2 => by
        refine q ?_
        rw [Array.setIfInBounds_comm _ _ (Ne.symm hji)]
        exact getD_set_f q2 hne
      refine wpOp_mono (fun a' w' h3 => ⟨hcl w' h3.2.1, ih (listed.setIfInBounds j true) a' w' hfree' (ready_mono hr (Ne.symm hji)) h3.1 (fun q => ⟨getD_set_f (hl q).1 (hje q), waitsC_set hil hj (hl q).2⟩) (hcl w' h3.2.1) ?_⟩) h2
      rw [Array.setIfInBounds_comm _ _ hji]
      exact h3.2.2
end
/-- An order that serves for all. 0: rests on nothing; 1: a read, ahead of e; 2: alone, ahead of e; 3: alone, e or behind it. -/
def okF (ops : Array Oper) (e : Nat) : List (Nat × Nat) → Array Bool → Bool
  | [], listed => (Region.ready .any ops listed).isEmpty
  | (t, i) :: r, listed =>
    (match t with
      | 0 => i != e && Region.free .any ops listed i && (Region.ready .any ops listed).contains i
      | 1 => i != e && waitsC ops listed 4 e i && Region.free .any ops listed i && (Region.ready .any ops listed).contains i && !(listed.getD e false)
      | 2 => i != e && Region.ready .any ops listed == [i] && !(listed.getD e false)
      | _ => Region.ready .any ops listed == [i] && (i == e || listed.getD e false) && Nat.blt e ops.size && listed.size == ops.size) && okF ops e r (listed.setIfInBounds i true)
def WF (C : Ctx) (ops : Array Oper) (e : Nat) (S : Heap → Prop) (σ : List (Nat × Nat)) (K : K3) (tm lo : Env) (h : Heap) : Prop :=
  ∀ listed, okF ops e σ listed = true → Region.noSelect ops = true → panicFlat K → (listed.getD e false = false → S h) → ∀ w0 a w, Rest w0 w → w.heap = h → Fits C tm lo a →
    AnyF C.P ops (lift C w0 K) (fun w => Rest w0 w ∧ S w.heap) e σ.length listed a w
section
variable {C : Ctx} {K : K3} {tm lo : Env} {h : Heap} {ol : List Oper} {e : Nat} {S : Heap → Prop} {σ : List (Nat × Nat)} {op : Op} {ty : TypeId} {pos : String} {af : Array Edge} {i : Nat}
theorem WF.nil (H : K .normal tm lo h) : WF C ol.toArray e S [] K tm lo h := by
  intro listed ok _ _ hS w0 a w hr hh F
  have : Region.ready .any ol.toArray listed = [] := by simpa [okF] using ok
  exact ⟨this, hr, tm, lo, F, hh ▸ H⟩
theorem WF.p (tc : Bool) {d : Nat} {v : Value} (ho : nth ol i = some ⟨some d, op, ty, pos, af, none⟩) (hp : ∀ h', RunsV C tm lo h' op v) (hd : (bif tc then C.isT d else C.isL d) = true) (H : WF C ol.toArray e S σ K (bif tc then (d, v) :: tm else tm) (bif tc then lo else (d, v) :: lo) h) :
    WF C ol.toArray e S ((0, i) :: σ) K tm lo h := by
  intro listed ok hs hK hS w0 a w hr hh F
  simp only [okF, Bool.and_eq_true, bne_iff_ne] at ok
  obtain ⟨⟨⟨o4, o1⟩, o2⟩, o3⟩ := ok
  rw [nth_eq] at ho
  have hi : ol.toArray[i]? = some ⟨some d, op, ty, pos, af, none⟩ := by simpa using ho
  refine AnyF.first (S := fun w => Rest w0 w ∧ S w.heap) false hi hs (lift_panic hK _ _) o4 _ _ _ _ o1 (by simpa using o2) (.inl ⟨by simp [Region.wanted], fun w' hw' => hp w'.heap a w' F rfl _ _ _ _ _⟩) (fun q => (nomatch q)) (fun q => ⟨hr, hh ▸ hS q⟩)
    (H _ o3 hs hK (fun q => hS (getD_unset q)) w0 _ w hr hh ?_)
  cases tc with
  | true => exact F.putT hd v
  | false => exact F.putL hd v
theorem WF.s {d : Nat} {v : Value} (ho : nth ol i = some ⟨some d, op, ty, pos, af, none⟩) (hp : pureOp tm lo op = some v) (hd : C.isT d = true) (H : WF C ol.toArray e S σ K ((d, v) :: tm) lo h) :
    WF C ol.toArray e S ((0, i) :: σ) K tm lo h := WF.p true ho (fun _ => RunsV.p hp) hd H
theorem WF.v {d : Nat} {v : Value} (ho : nth ol i = some ⟨some d, op, ty, pos, af, none⟩) (hp : ∀ h', RunsV C tm lo h' op v) (hd : C.isT d = true) (H : WF C ol.toArray e S σ K ((d, v) :: tm) lo h) :
    WF C ol.toArray e S ((0, i) :: σ) K tm lo h := WF.p true ho hp hd H
theorem WF.sL {d : Nat} {v : Value} (ho : nth ol i = some ⟨some d, op, ty, pos, af, none⟩) (hp : pureOp tm lo op = some v) (hd : C.isL d = true) (H : WF C ol.toArray e S σ K tm ((d, v) :: lo) h) :
    WF C ol.toArray e S ((0, i) :: σ) K tm lo h := WF.p false ho (fun _ => RunsV.p hp) hd H
/-- A read. -/
theorem WF.q {d : Nat} {v : Value} (ho : nth ol i = some ⟨some d, op, ty, pos, af, none⟩) (hp : ∀ h', S h' → RunsV C tm lo h' op v) (hd : C.isT d = true) (H : WF C ol.toArray e S σ K ((d, v) :: tm) lo h) :
    WF C ol.toArray e S ((1, i) :: σ) K tm lo h := by
  intro listed ok hs hK hS w0 a w hr hh F
  simp only [okF, Bool.and_eq_true, bne_iff_ne, Bool.not_eq_true'] at ok
  obtain ⟨⟨⟨⟨⟨o4, o5⟩, o1⟩, o2⟩, o6⟩, o3⟩ := ok
  rw [nth_eq] at ho
  have hi : ol.toArray[i]? = some ⟨some d, op, ty, pos, af, none⟩ := by simpa using ho
  exact AnyF.first (S := fun w => Rest w0 w ∧ S w.heap) true hi hs (lift_panic hK _ _) o4 _ _ _ _ o1 (by simpa using o2) (.inl ⟨by simp [Region.wanted], fun w' hw' => hp w'.heap (hw' rfl).2 a w' F rfl _ _ _ _ _⟩) (fun _ => ⟨o6, o5⟩) (fun q => ⟨hr, hh ▸ hS q⟩)
    (H _ o3 hs hK (fun q => hS (getD_unset q)) w0 _ w hr hh (F.putT hd v))
theorem WF.rd {d : Nat} {v : Value} (ho : nth ol i = some ⟨some d, op, ty, pos, af, none⟩) (hp : RunsV C tm lo h op v) (hd : C.isT d = true) (H : WF C ol.toArray e (same h) σ K ((d, v) :: tm) lo h) :
    WF C ol.toArray e (same h) ((1, i) :: σ) K tm lo h := WF.q ho (fun _ e => by cases e; exact hp) hd H
theorem onlyF {o : Oper} {ops : Array Oper} (hi : ops[i]? = some o) (hg : o.guard = none) {fuel : Nat} {listed : Array Bool} {a : Act} {w : World} {Q : Exit → Act → World → Prop} {SW : World → Prop}
    (hr : Region.ready .any ops listed = [i]) (H : o.wp C.P a w (fun a' w' => ((listed.setIfInBounds i true).getD e false = false → SW w') ∧ AnyF C.P ops Q SW e fuel (listed.setIfInBounds i true) a' w') Q) :
    AnyF C.P ops Q SW e (fuel + 1) listed a w := by
  refine ⟨fun h => (by rw [hr] at h; cases h), fun j hj => ?_⟩
  rw [hr] at hj
  obtain rfl : j = i := by simpa using hj
  unfold wpOp
  simp only [hi]
  rw [if_pos (by simp [Region.wanted, hg])]
  exact .inl H
theorem done3 {ops : Array Oper} {listed : Array Bool} (h1 : Nat.blt e ops.size = true) (h2 : listed.size = ops.size) (h : (i == e || listed.getD e false) = true) : (listed.setIfInBounds i true).getD e false = true := by
  have hlt : e < listed.size := by rw [h2]; exact Nat.le_of_ble_eq_true h1
  rcases Bool.or_eq_true _ _ ▸ h with q | q
  · have : i = e := by simpa using q
    subst this
    simp [hlt]
  · by_cases c : i = e
    · subst c; simp [hlt]
    · simp only [Array.getD_eq_getD_getElem?] at q ⊢
      rw [Array.getElem?_setIfInBounds_ne c]; exact q
/-- A store, e or behind it. -/
theorem WF.u {Φ : Heap → Prop} (ho : nth ol i = some ⟨none, op, ty, pos, af, none⟩) (hR : RunsU C tm lo h op Φ) (H : ∀ h', Φ h' → WF C ol.toArray e S σ K tm lo h') : WF C ol.toArray e S ((3, i) :: σ) K tm lo h := by
  intro listed ok hs hK hS w0 a w hr hh F
  simp only [okF, Bool.and_eq_true, beq_iff_eq] at ok
  obtain ⟨⟨⟨⟨o1, o4⟩, o5⟩, o6⟩, o3⟩ := ok
  have dn := done3 o5 o6 o4
  rw [nth_eq] at ho
  have hi : ol.toArray[i]? = some ⟨none, op, ty, pos, af, none⟩ := by simpa using ho
  obtain ⟨w', r1, r2, r3⟩ := hR a w F hh none ty pos af none
  refine onlyF hi rfl o1 ?_
  unfold Oper.wp
  rw [r1, Oper.upon_skip]
  exact ⟨fun q => (by rw [dn] at q; cases q), H _ r3 _ o3 hs hK (fun q => (by rw [dn] at q; cases q)) w0 _ w' (hr.trans r2) rfl F⟩
/-- A store ahead of e. -/
theorem WF.u2 {Φ : Heap → Prop} (ho : nth ol i = some ⟨none, op, ty, pos, af, none⟩) (hR : RunsU C tm lo h op Φ) (hS' : S h → ∀ h', Φ h' → S h') (H : ∀ h', Φ h' → WF C ol.toArray e S σ K tm lo h') : WF C ol.toArray e S ((2, i) :: σ) K tm lo h := by
  intro listed ok hs hK hS w0 a w hr hh F
  simp only [okF, Bool.and_eq_true, beq_iff_eq, bne_iff_ne, Bool.not_eq_true'] at ok
  obtain ⟨⟨⟨o4, o1⟩, o5⟩, o3⟩ := ok
  rw [nth_eq] at ho
  have hi : ol.toArray[i]? = some ⟨none, op, ty, pos, af, none⟩ := by simpa using ho
  obtain ⟨w', r1, r2, r3⟩ := hR a w F hh none ty pos af none
  refine onlyF hi rfl o1 ?_
  unfold Oper.wp
  rw [r1, Oper.upon_skip]
  have s' := hS' (hS o5) _ r3
  exact ⟨fun q => ⟨hr.trans r2, s'⟩, H _ r3 _ o3 hs hK (fun q => s') w0 _ w' (hr.trans r2) rfl F⟩
/-- What changes the heap and yields, ahead of e (b = true) or not. -/
theorem WF.ef {d : Nat} (b : Bool) {Φ : Value → Heap → Prop} (ho : nth ol i = some ⟨some d, op, ty, pos, af, none⟩) (hR : Runs C tm lo h op Φ) (hd : C.isT d = true) (hS' : b = true → S h → ∀ v h', Φ v h' → S h')
    (H : ∀ v h', Φ v h' → WF C ol.toArray e S σ K ((d, v) :: tm) lo h') : WF C ol.toArray e S ((bif b then 2 else 3, i) :: σ) K tm lo h := by
  intro listed ok hs hK hS w0 a w hr hh F
  rw [nth_eq] at ho
  have hi : ol.toArray[i]? = some ⟨some d, op, ty, pos, af, none⟩ := by simpa using ho
  obtain ⟨v, w', r1, r2, r3⟩ := hR a w F hh (some d) ty pos af none
  cases b with
  | true =>
    simp only [cond_true, okF, Bool.and_eq_true, beq_iff_eq, bne_iff_ne, Bool.not_eq_true'] at ok
    obtain ⟨⟨⟨o4, o1⟩, o5⟩, o3⟩ := ok
    refine onlyF hi rfl o1 ?_
    unfold Oper.wp
    rw [r1, Oper.upon_value]
    have s' := hS' rfl (hS o5) _ _ r3
    exact ⟨fun q => ⟨hr.trans r2, s'⟩, H _ _ r3 _ o3 hs hK (fun q => s') w0 _ w' (hr.trans r2) rfl (F.putT hd v)⟩
  | false =>
    simp only [cond_false, okF, Bool.and_eq_true, beq_iff_eq] at ok
    obtain ⟨⟨⟨⟨o1, o4⟩, o5⟩, o6⟩, o3⟩ := ok
    have dn := done3 o5 o6 o4
    refine onlyF hi rfl o1 ?_
    unfold Oper.wp
    rw [r1, Oper.upon_value]
    exact ⟨fun q => (by rw [dn] at q; cases q), H _ _ r3 _ o3 hs hK (fun q => (by rw [dn] at q; cases q)) w0 _ w' (hr.trans r2) rfl (F.putT hd v)⟩
theorem WF.call {d : Nat} (b : Bool) {f : Operand} {args : Array Operand} {ats : Array TypeId} {g : FuncId} {l : List Value} {cap A : Array Value} [q : Fun C.P g] {Φ : Value → Heap → Prop}
    (ho : nth ol i = some ⟨some d, .call { callee := .value f, args, argTypes := ats }, ty, pos, af, none⟩) (Sp : Spec C.P g A h Φ) (hf : opv tm lo f = some (.func (.func g) #[] cap)) (ha : opvs tm lo args.toList = some l) (hA : l.toArray ++ cap = A) (hd : C.isT d = true)
    (hS' : b = true → S h → ∀ v h', Φ v h' → S h') (H : ∀ v h', Φ v h' → WF C ol.toArray e S σ K ((d, v) :: tm) lo h') : WF C ol.toArray e S ((bif b then 2 else 3, i) :: σ) K tm lo h := by
  intro listed ok hs hK hS w0 a w hr hh F
  rw [nth_eq] at ho
  have hi : ol.toArray[i]? = some ⟨some d, .call { callee := .value f, args, argTypes := ats }, ty, pos, af, none⟩ := by simpa using ho
  cases b with
  | true =>
    simp only [cond_true, okF, Bool.and_eq_true, beq_iff_eq, bne_iff_ne, Bool.not_eq_true'] at ok
    obtain ⟨⟨⟨o4, o1⟩, o5⟩, o3⟩ := ok
    refine onlyF hi rfl o1 ?_
    unfold Oper.wp
    rw [call_run F w hf ha, hA, Oper.upon_enter]
    refine (Sp w hh).mono ?_
    rintro x w' ⟨r2, r3⟩
    cases x with
    | returned v =>
      have s' := hS' rfl (hS o5) _ _ r3
      exact ⟨fun q => ⟨hr.trans r2, s'⟩, H _ _ r3 _ o3 hs hK (fun q => s') w0 _ w' (hr.trans r2) rfl (F.putT hd v)⟩
    | panicked ch => exact r3.elim
    | outgrown => exact r3.elim
  | false =>
    simp only [cond_false, okF, Bool.and_eq_true, beq_iff_eq] at ok
    obtain ⟨⟨⟨⟨o1, o4⟩, o5⟩, o6⟩, o3⟩ := ok
    have dn := done3 o5 o6 o4
    refine onlyF hi rfl o1 ?_
    unfold Oper.wp
    rw [call_run F w hf ha, hA, Oper.upon_enter]
    refine (Sp w hh).mono ?_
    rintro x w' ⟨r2, r3⟩
    cases x with
    | returned v => exact ⟨fun q => (by rw [dn] at q; cases q), H _ _ r3 _ o3 hs hK (fun q => (by rw [dn] at q; cases q)) w0 _ w' (hr.trans r2) rfl (F.putT hd v)⟩
    | panicked ch => exact r3.elim
    | outgrown => exact r3.elim
theorem WC.drawF {id : Nat} [m : Mixed C.P] (e : Nat) (σ : List (Nat × Nat)) (S : Heap → Prop) (hok : (okF ol.toArray e σ (Array.replicate ol.toArray.size false) && Region.noSelect ol.toArray && (σ.length == ol.toArray.size)) = true) (hK : panicFlat K) (hS : S h)
    (H : WF C ol.toArray e S σ K [] lo h) : WC C (.region id ol.toArray true) K tm lo h := by
  intro w0 a w hr hh F
  simp only [Bool.and_eq_true, beq_iff_eq] at hok
  obtain ⟨⟨h1, h2⟩, h3⟩ := hok
  refine wp_region_any m.h (AnyF.any (S := fun w => Rest w0 w ∧ S w.heap) (e := e) _ _ _ _ ?_)
  have := H _ h1 h2 hK (fun _ => hS) w0 a { w with drawn := w.drawn + 1 } ⟨hr.os, hr.output, hr.tape⟩ hh F.drop
  rw [h3] at this
  exact this
end
end Go.Eng
