/- Steps of the proof: lemmas for every input, without conditions but those that each states. -/
import Derived.Test.YtjpgcjbcfodicaaT
set_option linter.unusedSimpArgs false
set_option linter.unusedVariables false
namespace Go.Eng
open Go.Proofs

/-! ### The field's tables -/
/- The tables, packed: byte i of expN is the i-th power of 2; byte x of logN is which power x is. -/
def expN : Nat := 0x8e47add86c361b83cfe9fa7db0582c160b8bcbebfbf3f7f5f47a3d90482412098a45ac562b9bc3eff9f279b259a251a653a7dde070381c0e078dc86432198241ae57a5dc6e3795c46231964babdbe3fff1f67bb3d7e5fc7e3f91c663bfd1e673b7d5e472399249aa55a452299a4da8542a158442219e4fa9da6db85c2e1785cc663397c5ec763b93c7edf87c3e1f81ce67bdd068341a0d884422118643afd9e271b65ba3dfe1fe7fb1d66bbbd3e7fdf0783c1e0f89ca65bc5e2f99c261be5fa1de6fb9d269ba5da05028140a058c46239fc1ee77b5d46a35944a259c4e279dc06030180c06038fc9ea75b45a2d984c261387cde8743a1d8040201008040201
def logN : Nat := 0xaf5850a8eaf4d674e8ade7e6e9d5ae4fd72c757aeb16f50b51a0a99cb05f59cb5a3eccbbb18660fbaa559d29523ba16cf66f0c7fec4917c476a47bb7d8432d1fa2416d4753393c849e5d2a14abd356f261befcdcb2978790cdcfbc955bd13f372e892023d99244117cb4b8267799a5e318fec531edde4a670d63808cf7c0700757a7f373ace5d44e2b79150a9f9b5eca3dba85fa54283a6b6e7e48c3a3b6421e404638835c13d2f1bddb968fce94d03688229110b32598e2fd30dd66628bbf06a672e44d78099ac9b9f9276a7dc2b51d458212f0da8e9335210f24e12f658a05714c08c8f869c11c81ef8d340ee064044bc7681bee33df03c61a320219010000
def pw (n : Nat) : Nat := Nat.land (Nat.shiftRight expN (8 * (n % 255))) 255
def expT (i : Nat) : UInt8 := UInt8.ofNat (pw i)
def logT (x : Nat) : Nat := Nat.land (Nat.shiftRight logN (8 * x)) 255
def gmul (a b : UInt8) : UInt8 := if a = 0 ∨ b = 0 then 0 else expT (logT a.toNat + logT b.toNat)
def ginv (a : UInt8) : UInt8 := if a = 0 then 0 else expT (logT a.toNat * 254 % 255)
theorem logT_lt : ∀ x, x < 256 → logT x < 255 := by decide +kernel
theorem pw_lt (n : Nat) : pw n < 256 := Nat.lt_succ_of_le Nat.and_le_right
theorem pw_log : ∀ x, x < 256 → x ≠ 0 → pw (logT x) = x := by decide +kernel
theorem log_pw : ∀ i, i < 255 → logT (pw i) = i := by decide +kernel
theorem pw_pos : ∀ i, i < 255 → pw i ≠ 0 := by decide +kernel
theorem pw_mod (n : Nat) : pw (n % 255) = pw n := by unfold pw; rw [Nat.mod_mod]
theorem step_pw : ∀ n, n < 255 → pw (n + 1) = (if 2 * pw n > 255 then 2 * pw n ^^^ 285 else 2 * pw n) := by decide +kernel

/-- The field's tables at an address. -/
def Fld (S : Nat → Prop) (h : Heap) (b : Nat) : Prop :=
  S b ∧ (∀ i, i < 510 → hc h b i = some (vB (expT i))) ∧ ∀ j, j < 256 → hc h b (510 + j) = some (vI (logT j))
theorem Fld.keep {S T : Nat → Prop} {h h' : Heap} {b : Nat} (F : Fld S h b) (k : Keeps T h h') (s : ∀ b, S b → T b) : Fld S h' b :=
  ⟨F.1, fun i hi => k.hc (F.2.1 i hi) (s b F.1), fun j hj => k.hc (F.2.2 j hj) (s b F.1)⟩
theorem Fld.ext {S : Nat → Prop} {h h' : Heap} {b : Nat} (F : Fld S h b) (k : Ext h h') : Fld S h' b := F.keep k fun _ _ => trivial

theorem byte0 (x : UInt8) : (x.toNat : Int) = 0 ↔ x = 0 := by
  constructor
  · intro h; apply UInt8.toNat.inj; simpa using Int.ofNat_eq_zero.1 h
  · rintro rfl; rfl
theorem nat0 (x : UInt8) : x.toNat = 0 ↔ x = 0 := by
  constructor
  · intro h; exact UInt8.toNat.inj (by simpa using h)
  · rintro rfl; rfl
theorem gf_Field_Mul_spec {S : Nat → Prop} {h : Heap} {b : Nat} (F : Fld S h b) (x y : UInt8) : Spec PP f_gf_Field_Mul #[ptr b, vB x, vB y] h (fun v h' => v = vB (gmul x y) ∧ h' = h) := by
  have zero : x = 0 ∨ y = 0 → gmul x y = 0 := fun e => if_pos e
  refine Spec.body (C := c_gf_Field_Mul) [(0, ptr b), (1, vB x), (2, vB y)] h_gf_Field_Mul rfl rfl rfl ⟨rfl, rfl, rfl, trivial⟩ rfl ?_
  refine WC.seq (WC.region ?_)
  refine WR.sL rfl rfl (WR.nil ?_)
  refine WC.seq (WC.seq (WC.region ?_))
  refine WR.s rfl rfl ?_
  refine WR.v (RunsV.eqNil rfl rfl) rfl ?_
  refine WR.s rfl rfl ?_
  refine WG.start rfl rfl ?_
  iterate 2 refine WG.s rfl rfl rfl rfl ?_
  refine WG.or rfl rfl ?_
  refine WR.s rfl rfl ?_
  refine WG.start rfl rfl ?_
  iterate 2 refine WG.s rfl rfl rfl rfl ?_
  refine WG.or rfl rfl (WR.nil ?_)
  refine WC.ite rfl (fun e => ?_) (fun e => ?_)
  · refine WC.seq (WC.region ?_)
    refine WR.sL rfl rfl (WR.nil ?_)
    refine WC.ret ⟨_, rfl, ?_, rfl⟩
    simp [nat0] at e
    rw [zero e]; rfl
  · have lx := logT_lt _ x.toNat_lt
    have ly := logT_lt _ y.toNat_lt
    refine WC.skip ?_
    refine WC.seq (WC.draw [(false,0),(false,1),(false,2),(false,3),(false,4),(false,5),(false,6),(false,7),(false,8),(false,9),(false,10),(false,11),(false,12),(false,13),(false,14),(false,15),(false,16),(false,17),(false,18)] (same h) (by decide +kernel) (fun _ _ _ _ _ _ q => q) rfl ?_)
    iterate 4 refine WQ.s rfl rfl rfl ?_
    refine WQ.rd rfl (RunsV.fa0 rfl) rfl ?_
    refine WQ.rd rfl (RunsV.ia1 x.toNat x.toNat_lt rfl rfl rfl) rfl ?_
    refine WQ.rd rfl (RunsV.ld rfl (by simpa using F.2.2 _ x.toNat_lt)) rfl ?_
    iterate 3 refine WQ.s rfl rfl rfl ?_
    refine WQ.rd rfl (RunsV.fa0 rfl) rfl ?_
    refine WQ.rd rfl (RunsV.ia1 y.toNat y.toNat_lt rfl rfl rfl) rfl ?_
    refine WQ.rd rfl (RunsV.ld rfl (by simpa using F.2.2 _ y.toNat_lt)) rfl ?_
    refine WQ.rd rfl (RunsV.add rfl rfl (by omega)) rfl ?_
    refine WQ.s rfl rfl rfl ?_
    refine WQ.rd rfl (RunsV.fa0 rfl) rfl ?_
    refine WQ.rd rfl (RunsV.ia1 (logT x.toNat + logT y.toNat) (by omega) rfl rfl rfl) rfl ?_
    refine WQ.rd rfl (RunsV.ld rfl (by simpa using F.2.1 (logT x.toNat + logT y.toNat) (by omega))) rfl ?_
    refine WQ.sL rfl rfl rfl ?_
    refine WQ.nil ?_
    refine WC.ret ⟨_, rfl, ?_, rfl⟩
    show vB _ = _
    simp [nat0] at e
    rw [gmul, if_neg (by simp [e])]

/-! ### New -/
def fcells (E : List UInt8) (L : List Nat) : Array Value := (bcells E ++ L.map fun n : Nat => vI n).toArray
theorem fcells_E {E : List UInt8} {L : List Nat} {i : Nat} (x : UInt8) (hi : i < E.length) : (fcells E L).setIfInBounds i (vB x) = fcells (E.set i x) L := by
  simp [fcells, bcells, List.set_append, hi]
theorem fcells_L {E : List UInt8} {L : List Nat} {j : Nat} (n : Nat) : (fcells E L).setIfInBounds (E.length + j) (vI n) = fcells E (L.set j n) := by
  simp [fcells, bcells, List.set_append]
theorem fcells_size (E : List UInt8) (L : List Nat) : (fcells E L).size = E.length + L.length := by simp [fcells, bcells]

theorem gf_New_1_spec {h : Heap} {bf bF : Nat} {E : List UInt8} {L : List Nat} (B : Box h bf t_ptr_gf_Field (ptr bF)) (hF : h[bF]? = some (.cells (fcells E L) t_gf_Field (0, 0))) (hE : E.length = 510) (hL : L.length = 256) (i x : Nat) (hi : i < 255) (hx : x < 256) :
    Spec PP f_gf_New_1 #[vI i, vI x, ptr bf] h (fun v h' => h'[bF]? = some (.cells (fcells ((E.set i (UInt8.ofNat x)).set (i + 255) (UInt8.ofNat x)) (L.set x i)) t_gf_Field (0, 0)) ∧ Keeps (fun b => b ≠ bF) h h') := by
  have hne : bf ≠ bF := by
    rintro rfl
    rw [B] at hF
    have := congrArg (fun o => match o with | some (Obj.cells c _ _) => c.size | _ => 0) hF
    simp [fcells_size, hE, hL] at this
  refine Spec.body (C := c_gf_New_1) [(0, vI i), (1, vI x), (2, ptr bf)] h_gf_New_1 rfl rfl rfl ⟨rfl, rfl, rfl, trivial⟩ rfl ?_
  refine WC.seq ?_
  refine WC.draw [(false,0),(false,1),(false,2),(false,3),(false,4),(false,5),(false,6),(false,7),(false,8),(false,9),(false,10),(false,11),(false,13),(false,14),(true,12),(false,15),(true,16)] (fun h => Box h bf t_ptr_gf_Field (ptr bF)) (by decide +kernel) (fun _ _ _ _ _ _ q => q) B ?_
  refine WQ.q rfl (fun _ B => RunsV.ldB B rfl) rfl ?_
  refine WQ.s rfl rfl rfl ?_
  refine WQ.q rfl (fun _ B => RunsV.ldB B rfl) rfl ?_
  refine WQ.s rfl rfl rfl ?_
  refine WQ.q rfl (fun _ _ => RunsV.add rfl rfl (by omega)) rfl ?_
  refine WQ.s rfl rfl rfl ?_
  refine WQ.q rfl (fun _ _ => RunsV.cvB rfl) rfl ?_
  refine WQ.s rfl rfl rfl ?_
  refine WQ.q rfl (fun _ _ => RunsV.cvB rfl) rfl ?_
  refine WQ.s rfl rfl rfl ?_
  refine WQ.q rfl (fun _ _ => RunsV.fa0 rfl) rfl ?_
  refine WQ.q rfl (fun _ _ => RunsV.ia1 i (by omega) rfl rfl rfl) rfl ?_
  refine WQ.s rfl rfl rfl ?_
  refine WQ.q rfl (fun _ _ => RunsV.fa0 rfl) rfl ?_
  refine WQ.u rfl (RunsU.st rfl rfl hF (by rw [fcells_size]; omega) rfl) (fun _ B _ q => B.keep q.2.ext hne) (by omega) ?_
  rintro h1 ⟨q1, u1⟩
  refine WQ.q rfl (fun _ _ => RunsV.ia1 (i + 255) (by omega) rfl rfl rfl) rfl ?_
  refine WQ.u rfl (RunsU.st rfl rfl q1 (by simp [fcells_size]; omega) rfl) (fun _ B _ q => B.keep q.2.ext hne) (by omega) ?_
  rintro h2 ⟨q2, u2⟩
  have B2 := (B.keep u1.ext hne).keep u2.ext hne
  refine WQ.nil ?_
  refine WC.region ?_
  refine WR.v (RunsV.ldB B2 rfl) rfl ?_
  iterate 3 refine WR.s rfl rfl ?_
  refine WR.v (RunsV.fa0 rfl) rfl ?_
  refine WR.v (RunsV.ia1 x (by omega) rfl rfl rfl) rfl ?_
  refine WR.stepU (RunsU.st rfl rfl q2 (by simp [fcells_size]; omega) rfl) ?_
  rintro h3 ⟨q3, u3⟩
  refine WR.nil ⟨_, rfl, ?_, (u1.ext.trans u2.ext).trans u3.ext⟩
  rw [q3]
  have hy : ∀ n : Nat, n < 256 → toB (n : Int) = UInt8.ofNat n := toB_nat
  rw [hy x hx]
  have e1 := fcells_E (L := L) (UInt8.ofNat x) (show 0 + i < E.length by omega)
  have e2 := fcells_E (L := L) (E := E.set (0 + i) (UInt8.ofNat x)) (UInt8.ofNat x) (show 0 + (i + 255) < _ by simp; omega)
  have e3 := fcells_L (E := (E.set (0 + i) (UInt8.ofNat x)).set (0 + (i + 255)) (UInt8.ofNat x)) (L := L) (j := x) i
  simp only [List.length_set, hE, Nat.zero_add] at e1 e2 e3
  simp only [Nat.zero_add, e1, e2, e3]

def stN : Nat → List Nat
  | 0 => List.replicate 510 0
  | n + 1 => ((stN n).set n (pw n)).set (n + 255) (pw n)
def stE (n : Nat) : List UInt8 := (stN n).map UInt8.ofNat
def stL : Nat → List Nat
  | 0 => List.replicate 256 0
  | n + 1 => (stL n).set (pw n) n
theorem stE_succ (n : Nat) : stE (n + 1) = ((stE n).set n (UInt8.ofNat (pw n))).set (n + 255) (UInt8.ofNat (pw n)) := by simp [stE, stN, List.map_set]
theorem stN_len : ∀ n, (stN n).length = 510
  | 0 => List.length_replicate
  | n + 1 => by simp [stN, stN_len n]
theorem stE_len (n : Nat) : (stE n).length = 510 := by simp [stE, stN_len n]
theorem stL_len : ∀ n, (stL n).length = 256
  | 0 => List.length_replicate
  | n + 1 => by simp [stL, stL_len n]
theorem stN_at : ∀ n, n ≤ 255 → ∀ i, i < 510 → (stN n)[i]? = some (if i < n ∨ (255 ≤ i ∧ i < n + 255) then pw i else 0)
  | 0, _, i, hi => by
    rw [stN, List.getElem?_replicate, if_pos hi, if_neg (by omega)]
  | n + 1, hn, i, hi => by
    have ih := stN_at n (by omega) i hi
    rw [stN, List.getElem?_set, List.getElem?_set]
    simp only [List.length_set, stN_len n]
    by_cases e : n + 255 = i
    · rw [if_pos e, if_pos (by omega), if_pos (by omega)]
      rw [← pw_mod i, ← pw_mod n, ← e]
      simp
    · rw [if_neg e]
      by_cases e2 : n = i
      · rw [if_pos e2, if_pos (by omega), if_pos (by omega), e2]
      · rw [if_neg e2, ih]
        congr 1
        by_cases q : i < n ∨ (255 ≤ i ∧ i < n + 255)
        · rw [if_pos q, if_pos (by omega)]
        · rw [if_neg q, if_neg (by omega)]
theorem stE_end (i : Nat) (hi : i < 510) : (stE 255)[i]? = some (expT i) := by
  rw [stE, List.getElem?_map, stN_at 255 (by omega) i hi, if_pos (by omega)]
  rfl
theorem pw_inj {i j : Nat} (hi : i < 255) (hj : j < 255) (e : pw i = pw j) : i = j := by rw [← log_pw i hi, ← log_pw j hj, e]
theorem stL_at : ∀ n, n ≤ 255 → (∀ i, i < n → (stL n)[pw i]? = some i) ∧ (stL n)[0]? = some 0
  | 0, _ => ⟨fun _ h => absurd h (by omega), by rw [stL, List.getElem?_replicate, if_pos (by omega)]⟩
  | n + 1, hn => by
    obtain ⟨ih, ih0⟩ := stL_at n (by omega)
    refine ⟨fun i hi => ?_, ?_⟩
    · rw [stL, List.getElem?_set]
      by_cases e : i = n
      · subst e
        rw [if_pos rfl, if_pos (by rw [stL_len]; exact pw_lt _)]
      · rw [if_neg (fun q => e (pw_inj (by omega) (by omega) q.symm)), ih i (by omega)]
    · rw [stL, List.getElem?_set, if_neg (pw_pos n (by omega)), ih0]
theorem stL_end (j : Nat) (hj : j < 256) : (stL 255)[j]? = some (logT j) := by
  by_cases e : j = 0
  · subst e; rw [(stL_at 255 (by omega)).2]; rfl
  · have := (stL_at 255 (by omega)).1 (logT j) (logT_lt j hj)
    rwa [pw_log j hj e] at this
def fzero : Array Value := List.toArray (List.replicate 510 (Value.int .u8 0) ++ List.replicate 256 (Value.int .i64 0))
theorem fzero_eq : fzero = fcells (stE 0) (stL 0) := by
  rw [fcells, stE, stN, stL, bcells, List.map_replicate, List.map_replicate, List.map_replicate, fzero]
  rfl
instance lay_field : Lay PP t_gf_Field #[(0, 510), (510, 256)] fzero := ⟨fun w => by kernel_rfl⟩

theorem gf_New_spec {h : Heap} : Spec PP f_gf_New #[] h (fun v h' => ∃ b, v = ptr b ∧ Fld (fun b => h.size ≤ b) h' b ∧ Ext h h') := by
  refine Spec.body (args := []) (C := c_gf_New) [] h_gf_New rfl rfl rfl trivial rfl ?_
  refine WC.seq (WC.region ?_)
  refine WR.sL rfl rfl (WR.nil ?_)
  refine WC.seq (WC.region ?_)
  refine WR.v (RunsV.build fzero rfl rfl) rfl ?_
  refine WR.stepT (Runs.box rfl) rfl ?_
  rintro _ h1 ⟨rfl, e1⟩
  have X1 : Ext h h1 := e1 ▸ (Ext.refl _).push _
  have hF : h1[h.size]? = some (.cells (fcells (stE 0) (stL 0)) t_gf_Field (0, 0)) := by rw [e1, ← fzero_eq]; exact push_self _ _
  have hlt : h.size < h1.size := (Array.getElem?_eq_some_iff.1 hF).1
  obtain ⟨bF, hbF⟩ : ∃ bF, bF = h.size := ⟨_, rfl⟩
  rw [← hbF] at hF hlt
  clear e1
  refine WR.stepL (Runs.al rfl) rfl ?_
  rintro _ h2 ⟨bf, rfl, hb, B, X2⟩
  refine WR.stepU (RunsU.stB B rfl (by rw [← hbF]; rfl) rfl) ?_
  rintro h3 ⟨B3, U3⟩
  have hF3 : h3[bF]? = some (.cells (fcells (stE 0) (stL 0)) t_gf_Field (0, 0)) := by rw [U3.2 bF (by omega), X2.blk bF hlt trivial]; exact hF
  have X3 : Ext h h3 := (X1.trans X2).upd U3 (.inl (by omega))
  clear hF B X2 X1 U3
  refine WR.nil ?_
  refine WC.seq (WC.region ?_)
  refine WR.s rfl rfl ?_
  refine WR.sL rfl rfl (WR.nil ?_)
  refine WC.seq (WC.region ?_)
  refine WR.sL rfl rfl (WR.nil ?_)
  refine WC.seq (WC.seq (WC.region ?_))
  refine WR.sL rfl rfl (WR.nil ?_)
  refine WC.block ?_
  refine WC.loop (σ := Nat) (fun i => [(1, ptr bf), (2, .func (.func f_gf_New_1) #[] #[ptr bf]), (3, vI (pw i)), (8, vI i)]) (fun i h' => i ≤ 255 ∧ h'[bF]? = some (.cells (fcells (stE i) (stL i)) t_gf_Field (0, 0)) ∧ Box h' bf t_ptr_gf_Field (ptr bF) ∧ Ext h h') (fun i => 255 - i) 0 (fun _ => rfl)
    ⟨rfl, rfl, rfl, rfl, trivial⟩ ⟨by omega, hF3, B3, X3⟩ ?_
  rintro i h4 ⟨hi, hF, B, X⟩
  refine WC.seq (WC.region ?_)
  refine WR.s rfl rfl (WR.nil ?_)
  refine WC.seq ?_
  refine WC.itep rfl (fun e => ?_) (fun e => ?_)
  · refine WC.skip ?_
    refine WC.seq (WC.block ?_)
    refine WC.seq (WC.region ?_)
    refine WR.s rfl rfl ?_
    refine WR.sL rfl rfl (WR.nil ?_)
    refine WC.seq (WC.region ?_)
    iterate 3 refine WR.s rfl rfl ?_
    refine WR.callC (gf_New_1_spec B hF (stE_len i) (stL_len i) i (pw i) (by omega) (pw_lt i)) rfl rfl rfl rfl ?_
    rintro v h5 ⟨q1, q2⟩
    rw [← stE_succ] at q1
    have B5 := B.keep q2 (show bf ≠ bF by omega)
    have X5 : Ext h h5 := ⟨Nat.le_trans X.size q2.size, fun j hj _ => (q2.blk j (Nat.lt_of_lt_of_le hj X.size) (show j ≠ bF by omega)).trans (X.blk j hj trivial)⟩
    refine WR.nil ?_
    have hp := pw_lt i
    refine WC.seq (WC.region ?_)
    refine WR.s rfl rfl ?_
    refine WR.v (RunsV.shl1 rfl rfl (by omega)) rfl ?_
    refine WR.sL rfl rfl (WR.nil ?_)
    refine WC.seq (WC.region ?_)
    iterate 2 refine WR.s rfl rfl ?_
    refine WR.nil ?_
    have hs := step_pw i (by omega)
    refine WC.itep rfl (fun e2 => ?_) (fun e2 => ?_)
    · refine WC.region ?_
      refine WR.s rfl rfl ?_
      refine WR.v (RunsV.xorN (a := 2 * pw i) (b := 285) rfl rfl (by omega) (by omega)) rfl ?_
      refine WR.sL rfl rfl (WR.nil ?_)
      refine WC.region ?_
      refine WR.v (RunsV.add rfl rfl (by omega)) rfl ?_
      refine WR.sL rfl rfl (WR.nil ?_)
      refine ⟨i + 1, ⟨rfl, rfl, ?_, rfl, trivial⟩, ⟨by omega, q1, B5, X5⟩, by dsimp only; omega⟩
      rw [hs, if_pos (by omega)]; rfl
    · refine WC.skip ?_
      refine WC.region ?_
      refine WR.v (RunsV.add rfl rfl (by omega)) rfl ?_
      refine WR.sL rfl rfl (WR.nil ?_)
      refine ⟨i + 1, ⟨rfl, rfl, ?_, rfl, trivial⟩, ⟨by omega, q1, B5, X5⟩, by dsimp only; omega⟩
      rw [hs, if_neg (by omega)]; rfl
  · have hi : i = 255 := by omega
    subst hi
    refine WC.exit (exit_hit ?_)
    refine WC.seq (WC.region ?_)
    refine WR.v (RunsV.ldB B rfl) rfl ?_
    refine WR.sL rfl rfl (WR.nil ?_)
    refine WC.ret ⟨_, rfl, bF, rfl, ⟨by omega, fun i hi => ?_, fun j hj => ?_⟩, X⟩
    · simp only [hc, hF, fcells, bcells]
      have := stE_end i hi
      simp only [List.getElem?_toArray]
      rw [List.getElem?_append_left (by simp [stE_len]; omega), List.getElem?_map, this]
      rfl
    · simp only [hc, hF, fcells, bcells]
      have := stL_end j hj
      simp only [List.getElem?_toArray]
      rw [List.getElem?_append_right (by simp [stE_len]), List.length_map, stE_len, List.getElem?_map, show 510 + j - 510 = j by omega, this]
      rfl

theorem gf_Field_Pow_spec {S : Nat → Prop} {h : Heap} {b : Nat} (F : Fld S h b) (x : UInt8) : Spec PP f_gf_Field_Pow #[ptr b, vB x, vI (-1)] h (fun v h' => v = .tuple #[vB (ginv x), vI (if x = 0 then 10 else 0)] ∧ h' = h) := by
  refine Spec.body (C := c_gf_Field_Pow) [(0, ptr b), (1, vB x), (2, vI (-1))] h_gf_Field_Pow rfl rfl rfl ⟨rfl, rfl, rfl, trivial⟩ rfl ?_
  refine WC.seq (WC.region ?_)
  iterate 2 refine WR.sL rfl rfl ?_
  refine WR.nil ?_
  refine WC.seq (WC.block ?_)
  refine WC.seq (WC.region ?_)
  refine WR.s rfl rfl ?_
  refine WR.v (RunsV.eqNil rfl rfl) rfl ?_
  refine WR.s rfl rfl (WR.nil ?_)
  refine WC.f rfl ?_
  refine WC.seq (WC.region ?_)
  iterate 3 refine WR.s rfl rfl ?_
  refine WG.start rfl rfl ?_
  iterate 2 refine WG.s rfl rfl rfl rfl ?_
  refine WG.and rfl rfl ?_
  refine WR.s rfl rfl (WR.nil ?_)
  refine WC.ite rfl (fun e => ?_) (fun e => ?_)
  · simp [nat0] at e
    refine WC.seq (WC.region ?_)
    iterate 2 refine WR.sL rfl rfl ?_
    refine WR.nil (WC.ret ⟨_, rfl, ?_, rfl⟩)
    subst e; rfl
  · simp [nat0] at e
    refine WC.seq (WC.region ?_)
    iterate 3 refine WR.s rfl rfl ?_
    refine WG.start rfl rfl ?_
    iterate 2 refine WG.s rfl rfl rfl rfl ?_
    refine WG.and rfl rfl ?_
    refine WR.s rfl rfl (WR.nil ?_)
    refine WC.ff rfl (by simp) ?_
    refine WC.skip ?_
    refine WC.seq (WC.region ?_)
    refine WR.s rfl rfl ?_
    refine WR.v (RunsV.to (v' := vI (-1)) (RunsV.rem rfl rfl (by decide)) rfl) rfl ?_
    refine WR.v (RunsV.to (v' := vI 254) (RunsV.add rfl rfl (by decide)) rfl) rfl ?_
    refine WR.v (RunsV.to (v' := vI 254) (RunsV.rem rfl rfl (by decide)) rfl) rfl ?_
    refine WR.sL rfl rfl (WR.nil ?_)
    have lx := logT_lt _ x.toNat_lt
    refine WC.seq ?_
    refine WC.draw [(false,0),(false,1),(false,2),(false,3),(false,4),(false,5),(false,6),(false,7),(false,8),(false,9),(false,10),(false,11),(false,12),(false,13),(false,14),(false,15)] (same _) (by decide +kernel) (fun _ _ _ _ _ _ q => q) rfl ?_
    iterate 4 refine WQ.s rfl rfl rfl ?_
    refine WQ.rd rfl (RunsV.fa0 rfl) rfl ?_
    refine WQ.rd rfl (RunsV.ia1 x.toNat x.toNat_lt rfl rfl rfl) rfl ?_
    refine WQ.rd rfl (RunsV.ld rfl (F.2.2 _ x.toNat_lt)) rfl ?_
    refine WQ.s rfl rfl rfl ?_
    refine WQ.rd rfl (RunsV.mul rfl rfl (by omega)) rfl ?_
    refine WQ.rd rfl (RunsV.remN (a := logT x.toNat * 254) (b := 255) (by rfl) rfl (by omega)) rfl ?_
    refine WQ.s rfl rfl rfl ?_
    refine WQ.rd rfl (RunsV.fa0 rfl) rfl ?_
    refine WQ.rd rfl (RunsV.ia1 (logT x.toNat * 254 % 255) (by omega) rfl rfl rfl) rfl ?_
    refine WQ.rd rfl (RunsV.ld rfl (by simpa using F.2.1 (logT x.toNat * 254 % 255) (by omega))) rfl ?_
    iterate 2 refine WQ.sL rfl rfl rfl ?_
    refine WQ.nil ?_
    refine WC.ret ⟨_, rfl, ?_, rfl⟩
    simp [one, ginv, e]
theorem gf_Field_Inv_spec {S : Nat → Prop} {h : Heap} {b : Nat} (F : Fld S h b) (x : UInt8) : Spec PP f_gf_Field_Inv #[ptr b, vB x] h (fun v h' => v = .tuple #[vB (ginv x), vI (if x = 0 then 10 else 0)] ∧ h' = h) := by
  refine Spec.body (C := c_gf_Field_Inv) [(0, ptr b), (1, vB x)] h_gf_Field_Inv rfl rfl rfl ⟨rfl, rfl, trivial⟩ rfl ?_
  refine WC.seq (WC.region ?_)
  iterate 2 refine WR.sL rfl rfl ?_
  refine WR.nil (WC.seq (WC.region ?_))
  iterate 2 refine WR.s rfl rfl ?_
  refine WR.callT (gf_Field_Pow_spec F x) rfl rfl rfl ?_
  rintro _ _ ⟨rfl, rfl⟩
  iterate 2 refine WR.s rfl rfl ?_
  iterate 2 refine WR.sL rfl rfl ?_
  exact WR.nil (WC.ret ⟨_, rfl, rfl, rfl⟩)
theorem gf_Field_Div_spec {S : Nat → Prop} {h : Heap} {b : Nat} (F : Fld S h b) (x y : UInt8) : Spec PP f_gf_Field_Div #[ptr b, vB x, vB y] h (fun v h' => v = .tuple #[vB (gmul x (ginv y)), vI (if y = 0 then 10 else 0)] ∧ h' = h) := by
  refine Spec.body (C := c_gf_Field_Div) [(0, ptr b), (1, vB x), (2, vB y)] h_gf_Field_Div rfl rfl rfl ⟨rfl, rfl, rfl, trivial⟩ rfl ?_
  refine WC.seq (WC.region ?_)
  iterate 2 refine WR.sL rfl rfl ?_
  refine WR.nil (WC.seq (WC.region ?_))
  iterate 2 refine WR.s rfl rfl ?_
  refine WR.callT (gf_Field_Inv_spec F y) rfl rfl rfl ?_
  rintro _ _ ⟨rfl, rfl⟩
  iterate 3 refine WR.s rfl rfl ?_
  iterate 2 refine WR.sL rfl rfl ?_
  refine WR.nil (WC.seq (WC.region ?_))
  iterate 3 refine WR.s rfl rfl ?_
  refine WR.callT (gf_Field_Mul_spec F x (ginv y)) rfl rfl rfl ?_
  rintro _ _ ⟨rfl, rfl⟩
  refine WR.s rfl rfl ?_
  iterate 2 refine WR.sL rfl rfl ?_
  exact WR.nil (WC.ret ⟨_, rfl, rfl, rfl⟩)
end Go.Eng
namespace Go.Eng

/-! ### The field's laws -/
theorem expT_toNat (i : Nat) : (expT i).toNat = pw i := by
  unfold expT
  rw [UInt8.toNat_ofNat']
  exact Nat.mod_eq_of_lt (pw_lt i)
theorem log_exp (i : Nat) : logT (expT i).toNat = i % 255 := by
  rw [expT_toNat, ← pw_mod, log_pw _ (Nat.mod_lt _ (by omega))]
theorem exp_mod (i : Nat) : expT (i % 255) = expT i := by unfold expT; rw [pw_mod]
theorem exp_ne (i : Nat) : expT i ≠ 0 := by
  intro e
  have := congrArg UInt8.toNat e
  rw [expT_toNat, ← pw_mod] at this
  exact pw_pos _ (Nat.mod_lt _ (by omega)) this
theorem exp_log {x : UInt8} (h : x ≠ 0) : expT (logT x.toNat) = x := by
  apply UInt8.toNat.inj
  rw [expT_toNat]
  exact pw_log _ x.toNat_lt (fun e => h ((nat0 x).1 e))
theorem gmul_exp (i j : Nat) : gmul (expT i) (expT j) = expT (i + j) := by
  unfold gmul
  rw [if_neg (by simp [exp_ne]), log_exp, log_exp, ← exp_mod (i + j), ← exp_mod (i % 255 + j % 255)]
  congr 1
  omega
theorem gmul_zero (a : UInt8) : gmul a 0 = 0 := by simp [gmul]
theorem zero_gmul (a : UInt8) : gmul 0 a = 0 := by simp [gmul]
theorem gmul_comm (a b : UInt8) : gmul a b = gmul b a := by
  unfold gmul
  rw [Nat.add_comm]
  by_cases h : a = 0 ∨ b = 0
  · rw [if_pos h, if_pos h.symm]
  · rw [if_neg h, if_neg (fun q => h q.symm)]
theorem gmul_assoc (a b c : UInt8) : gmul (gmul a b) c = gmul a (gmul b c) := by
  by_cases ha : a = 0
  · subst ha; simp [zero_gmul]
  by_cases hb : b = 0
  · subst hb; simp [zero_gmul, gmul_zero]
  by_cases hc : c = 0
  · subst hc; simp [gmul_zero]
  rw [← exp_log ha, ← exp_log hb, ← exp_log hc]
  simp only [gmul_exp, Nat.add_assoc]
theorem exp_zero : expT 0 = 1 := by decide +kernel
theorem gmul_one (a : UInt8) : gmul a 1 = a := by
  by_cases ha : a = 0
  · subst ha; rfl
  · rw [← exp_zero, ← exp_log ha, gmul_exp]; rfl
theorem one_gmul (a : UInt8) : gmul 1 a = a := by rw [gmul_comm, gmul_one]
theorem gmul_ne {a b : UInt8} (ha : a ≠ 0) (hb : b ≠ 0) : gmul a b ≠ 0 := by
  rw [← exp_log ha, ← exp_log hb, gmul_exp]
  exact exp_ne _
theorem gmul_eq_zero {a b : UInt8} (h : gmul a b = 0) : a = 0 ∨ b = 0 := by
  by_cases ha : a = 0
  · exact .inl ha
  · by_cases hb : b = 0
    · exact .inr hb
    · exact absurd h (gmul_ne ha hb)
theorem ginv_mul {a : UInt8} (ha : a ≠ 0) : gmul a (ginv a) = 1 := by
  unfold ginv
  rw [if_neg ha]
  have e : gmul a (expT (logT a.toNat * 254 % 255)) = gmul (expT (logT a.toNat)) (expT (logT a.toNat * 254 % 255)) := by rw [exp_log ha]
  rw [e, gmul_exp, ← exp_mod, ← exp_zero]
  congr 1
  omega
theorem ginv_ne {a : UInt8} (ha : a ≠ 0) : ginv a ≠ 0 := by
  intro e
  have := ginv_mul ha
  rw [e, gmul_zero] at this
  exact absurd this (by decide)

/-! Sums -/
def xtb (x : BitVec 8) : BitVec 8 := (x <<< 1) ^^^ (if x.msb then 29#8 else 0#8)
theorem xtb_xor (x y : BitVec 8) : xtb (x ^^^ y) = xtb x ^^^ xtb y := by
  unfold xtb
  rw [BitVec.shiftLeft_xor_distrib, BitVec.msb_xor]
  cases x.msb <;> cases y.msb <;> simp
  · ac_rfl
  · ac_rfl
  · have : ∀ a b c : BitVec 8, a ^^^ b = a ^^^ c ^^^ (b ^^^ c) := fun a b c => by
      have : a ^^^ c ^^^ (b ^^^ c) = a ^^^ b ^^^ (c ^^^ c) := by ac_rfl
      rw [this, BitVec.xor_self, BitVec.xor_zero]
    exact this _ _ _
def xt (x : UInt8) : UInt8 := UInt8.ofBitVec (xtb x.toBitVec)
theorem xt_xor (x y : UInt8) : xt (x ^^^ y) = xt x ^^^ xt y := by
  unfold xt
  rw [UInt8.toBitVec_xor, xtb_xor]
  rfl
theorem xt_zero : xt 0 = 0 := by decide +kernel
theorem xt_exp' : ∀ i, i < 255 → xt (expT i) = expT (i + 1) := by decide +kernel
theorem xt_exp (i : Nat) : xt (expT i) = expT (i + 1) := by
  rw [← exp_mod i, xt_exp' _ (Nat.mod_lt _ (by omega)), ← exp_mod (i + 1), ← exp_mod (i % 255 + 1)]
  congr 1
  omega
def xtn : Nat → UInt8 → UInt8
  | 0, x => x
  | n + 1, x => xt (xtn n x)
theorem xtn_xor : ∀ n x y, xtn n (x ^^^ y) = xtn n x ^^^ xtn n y
  | 0, _, _ => rfl
  | n + 1, x, y => by simp only [xtn, xtn_xor n, xt_xor]
theorem xtn_zero : ∀ n, xtn n 0 = 0
  | 0 => rfl
  | n + 1 => by simp only [xtn, xtn_zero n, xt_zero]
theorem xtn_exp (j : Nat) : ∀ n, xtn n (expT j) = expT (n + j)
  | 0 => by simp [xtn]
  | n + 1 => by rw [xtn, xtn_exp j n, xt_exp]; congr 1; omega
theorem gmul_xtn {a : UInt8} (ha : a ≠ 0) (y : UInt8) : gmul a y = xtn (logT a.toNat) y := by
  by_cases hy : y = 0
  · subst hy; rw [gmul_zero, xtn_zero]
  · have e : gmul a y = gmul (expT (logT a.toNat)) (expT (logT y.toNat)) := by rw [exp_log ha, exp_log hy]
    have e2 : xtn (logT a.toNat) y = xtn (logT a.toNat) (expT (logT y.toNat)) := by rw [exp_log hy]
    rw [e, e2, gmul_exp, xtn_exp]
theorem gmul_xor (a b c : UInt8) : gmul a (b ^^^ c) = gmul a b ^^^ gmul a c := by
  by_cases ha : a = 0
  · subst ha; simp [zero_gmul]
  · rw [gmul_xtn ha, gmul_xtn ha, gmul_xtn ha, xtn_xor]
theorem xor_gmul (a b c : UInt8) : gmul (a ^^^ b) c = gmul a c ^^^ gmul b c := by
  rw [gmul_comm, gmul_xor, gmul_comm c a, gmul_comm c b]
theorem xor_self8 (a : UInt8) : a ^^^ a = 0 := UInt8.xor_self
theorem xor_zero8 (a : UInt8) : a ^^^ 0 = a := UInt8.xor_zero
theorem zero_xor8 (a : UInt8) : 0 ^^^ a = a := UInt8.zero_xor
theorem xor_comm8 (a b : UInt8) : a ^^^ b = b ^^^ a := UInt8.xor_comm a b
theorem xor_assoc8 (a b c : UInt8) : a ^^^ b ^^^ c = a ^^^ (b ^^^ c) := UInt8.xor_assoc a b c
theorem xor_eq_zero8 {a b : UInt8} : a ^^^ b = 0 ↔ a = b := by
  constructor
  · intro h
    have : a ^^^ b ^^^ b = b := by rw [h, zero_xor8]
    rwa [xor_assoc8, xor_self8, xor_zero8] at this
  · rintro rfl; exact xor_self8 a
theorem gmul_div {a b : UInt8} (hb : b ≠ 0) : gmul b (gmul a (ginv b)) = a := by
  rw [gmul_comm a, ← gmul_assoc, ginv_mul hb, one_gmul]
theorem gmul_cancel {a b c : UInt8} (ha : a ≠ 0) (h : gmul a b = gmul a c) : b = c := by
  have : gmul (ginv a) (gmul a b) = gmul (ginv a) (gmul a c) := by rw [h]
  rwa [← gmul_assoc, ← gmul_assoc, gmul_comm (ginv a), ginv_mul ha, one_gmul, one_gmul] at this
end Go.Eng
