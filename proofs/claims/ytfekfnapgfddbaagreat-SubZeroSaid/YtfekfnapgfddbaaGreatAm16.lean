/- Regions that draw their order. -/
import Derived.Test.YtfekfnapgfddbaaGreatAm15
import Derived.Test.YtfekfnapgfddbaaGreatAm24
set_option linter.unusedVariables false
set_option linter.unusedSimpArgs false
set_option linter.unusedSectionVars false
namespace Go.Am
open Go Go.RowKit
variable [HasProg]

section
variable {P : Program} {F : Nat → Prop} {ro : Option Nat} {n : Nat}

theorem V_row_known {w : World} {X : Nat → Prop} {m : MM} {v : LV} {u : Value} (h : V w X m v u) {r : Nat} (hr : r ∈ rowsLeaf v) : ∃ x, m r = some x := by
  cases h with
  | row hm ha hl hc hcm =>
    simp only [rowsLeaf, List.mem_singleton] at hr
    subst hr
    exact ⟨_, hm⟩
  | _ => simp [rowsLeaf] at hr

theorem V_rows_known {w : World} {X : Nat → Prop} {m : MM} {v : LV} {u : Value} (h : V w X m v u) {r : Nat} (hr : r ∈ rowsOf v) : ∃ x, m r = some x := by
  by_cases ha : ∃ fs, v = .agg fs
  · obtain ⟨fs, rfl⟩ := ha
    obtain ⟨x, hx, hxr⟩ := List.mem_flatMap.1 hr
    obtain ⟨i, hi⟩ := List.mem_iff_getElem?.1 hx
    simp only [LV.leaves] at hi
    have hlt := (List.getElem?_eq_some_iff.1 hi).1
    cases h with
    | agg hl h1 hh =>
      have := hh i hlt
      rw [List.getD_eq_getElem?_getD, hi] at this
      exact V_row_known this hxr
  · have ha' : ∀ fs, v ≠ .agg fs := fun fs e => ha ⟨fs, e⟩
    rw [rowsOf, leaves_of ha'] at hr
    exact V_row_known h (by simpa using hr)

theorem mem_getD {l : List LV} {a : LV} (h : a ∈ l) : ∃ i, i < l.length ∧ l.getD i .undef = a := by
  obtain ⟨i, hi⟩ := List.mem_iff_getElem?.1 h
  exact ⟨i, (List.getElem?_eq_some_iff.1 hi).1, by rw [List.getD_eq_getElem?_getD, hi]; rfl⟩

/-- What an operation reads by its number is known. -/
theorem known_of {X : Nat → Prop} {m : MM} {w : World} {e : Env} {nt : Nat} {a : Act} {op : Op} {ap : AOp} (hc : cOp P op = some ap) (hE : RelE w X m e nt a) {r : Nat} (hr : usesId e ap r) : ∃ x, m r = some x := by
  cases ap <;> simp only [usesId] at hr
  case load ag n x =>
    obtain ⟨j, k, hx⟩ := hr
    obtain ⟨x0, hx0⟩ : ∃ x0, cOpd x0 = some x := by
      cases op <;> simp only [cOp] at hc
      case load t x0 =>
        split at hc
        · rename_i h; cases hc; exact ⟨_, h⟩
        · cases hc
      case call c =>
        unfold cCall at hc
        repeat' split at hc
        all_goals first | (cases hc; done) | (simp only [Option.map_eq_some_iff] at hc; obtain ⟨_, _, hh⟩ := hc; cases hh; done) | skip
      all_goals (repeat' split at hc) <;> first | contradiction | (cases hc; done) | (simp only [Option.map_eq_some_iff] at hc; obtain ⟨_, _, hh⟩ := hc; cases hh; done) | skip
    have hv := hE.opd _ _ hx0
    rw [hx] at hv
    generalize a.eval x0 = u0 at hv
    cases hv with
    | ref hm => exact ⟨_, hm⟩
  case call f args =>
    obtain ⟨g, first, caps, hf, b, hb, hrb⟩ := hr
    obtain ⟨c, fo, hf0, hxs⟩ : ∃ (c : Go.Call) (fo : Operand), cOpd fo = some f ∧ cOpds c.args.toList = some args := by
      cases op <;> simp only [cOp] at hc
      case call c =>
        unfold cCall at hc
        split at hc
        · rename_i fo hcal
          split at hc
          · rename_i g' ys hg hys
            cases hc
            exact ⟨c, fo, hg, hys⟩
          · cases hc
        all_goals (repeat' split at hc) <;> first | cases hc | (rename_i hh; cases hh) | skip
      all_goals (repeat' split at hc) <;> first | contradiction | cases hc | (simp only [Option.map_eq_some_iff] at hc; obtain ⟨_, _, hh⟩ := hc; cases hh) | skip
    have hfv := hE.opd _ _ hf0
    rw [hf] at hfv
    obtain ⟨l1, v1⟩ := cOpds_spec hxs hE.opd
    generalize a.eval fo = fu at hfv
    cases hfv with
    | fn hl hl' hv1 hv2 =>
      rcases List.mem_append.1 hb with hb | hb
      · rcases List.mem_append.1 hb with hb | hb
        · obtain ⟨i, hi, he⟩ := mem_getD hb
          have := hv1 i hi
          rw [he] at this
          exact V_rows_known this hrb
        · obtain ⟨i, hi, he⟩ := mem_getD hb
          have := v1 i (by simpa using hi)
          rw [he] at this
          exact V_rows_known this hrb
      · obtain ⟨i, hi, he⟩ := mem_getD hb
        have := hv2 i hi
        rw [he] at this
        exact V_rows_known this hrb

theorem leaf_V {w : World} {X : Nat → Prop} {m m' : MM} {l : LV} {u : Value} (hc : closeLeaf [] l = some l) (h : V w X m l u) : V w X m' l u := by
  cases h with
  | int => exact .int
  | bool => exact .bool
  | str => exact .str
  | agg => cases hc
  | tup => cases hc
  | sl hn hcc hcm hnil h0 hz hb h1 hv => exact .sl hn hcc hcm hnil h0 hz hb h1 hv
  | slz => exact .slz
  | row => simp [closeLeaf] at hc
  | ref => cases hc
  | imm hs hx hb hcc h1 hv => exact .imm hs hx hb hcc h1 hv
  | mp => cases hc
  | yld => cases hc
  | nilp => exact .nilp
  | @fn _ f xs ys us vs hl hl' h1 h2 =>
    cases xs with
    | nil =>
      cases ys with
      | nil => exact .fn hl hl' (fun i hi => by simp at hi) fun i hi => by simp at hi
      | cons => simp [closeLeaf] at hc
    | cons => cases ys <;> simp [closeLeaf] at hc
  | undef => cases hc

/-- What is laid where room was kept, seen as a new object. -/
theorem rsv_aop {C : Cfg} {W : Call} {e : Env} {S : Store} {r : Nat} {op : AOp} {v : LV} {ob : Obj} (h : rsv r e op = some (v, ob)) :
    ∃ v0, aop C W true e S op = some (v0, S ++ [ob]) ∧ mods true op = false ∧ (∀ f xs, op ≠ .call f xs) ∧ ownO ob ∧ (∀ {w : World} {X : Nat → Prop} {m m' : MM} {u : Value}, V w X m v0 u → ∃ x, m S.length = some x ∧ (m' r = some x → V w X m' v u)) ∧
      ∀ {w : World} {X : Nat → Prop} {m m' : MM} {b z cap : Nat}, ObjR w X m b z cap ob → ObjR w X m' b z cap ob := by
  cases op <;> simp only [rsv] at h <;> try (cases h; done)
  case alc x =>
    split at h
    · rename_i hh
      cases h
      simp only [Bool.and_eq_true, Option.isSome_iff_exists] at hh
      obtain ⟨hs, d, hd⟩ := hh
      obtain ⟨_, _, hl⟩ := close_nil hd
      refine ⟨.ref S.length 0 0, by simp [aop, hs], rfl, fun _ _ e => (by cases e), trivial, fun hv => ?_, fun {w X m m' b z cap} ho => ?_⟩
      · cases hv with
        | ref hm => exact ⟨_, hm, fun hm' => .ref hm'⟩
      · obtain ⟨T, c, h1, h2, h3, h4, h5⟩ := ho
        refine ⟨T, c, h1, h2, h3, h4, fun q hq => leaf_V ?_ (h5 q hq)⟩
        rw [List.getD_eq_getElem?_getD, List.getElem?_eq_getElem (by omega)]
        exact hl _ (List.getElem_mem _)
    · cases h
  case bsl E z parts =>
    split at h
    · cases h
    · rename_i ds hds
      split at h
      · rename_i hw
        cases h
        obtain ⟨h1, h2⟩ := mapO_close_nil hds
        refine ⟨.row S.length z 0 ds.length, ?_, rfl, fun _ _ e => (by cases e), rfl, fun hv => ?_, fun {w X m m' b z cap} ho => ho⟩
        · simp [aop, closeAll, h2 S, h1, hw, freeze]
        · cases hv with
          | row hm ha hl hc hcm => exact ⟨_, hm, fun hm' => .row hm' ha hl hc hcm⟩
      · cases h
  case mks E z b zero l =>
    split at h
    · rename_i k n hn
      split at h
      · rename_i hh
        cases h
        refine ⟨.row S.length z 0 n.toNat, by simp [aop, hn, hh], rfl, fun _ _ e => (by cases e), rfl, fun hv => ?_, fun {w X m m' b z cap} ho => ho⟩
        cases hv with
        | row hm ha hl hc hcm => exact ⟨_, hm, fun hm' => .row hm' ha hl hc hcm⟩
      · cases h
    · cases h

/-- A new object where room was kept for it. -/
theorem oper_at {C : Cfg} {W : Call} {m : MM} {S : Store} {w : World} {e : Env} {nt : Nat} {a : Act} {ops : Array Oper} {o : Oper} {ao : AOper} {r : Nat} {v : LV} {ob : Obj} (hc : cOper P ops o = some ao) (hg : ao.guard = none)
    (h : Rel w F m S) (hE : RelE w (XX F m S) m e nt a) (hrs : rsv r e ao.op = some (v, ob)) (hd : S[r]? = some .dead) (hm : m r = none) (hdst : ∀ d, ao.dst = some d → d < nt) {next : Act → World → Prop} {Q : Exit → Act → World → Prop}
    (hn : ∀ a' w' m', EvP F m S w m' (S.set r ob) w' → (∀ r', r' ≠ r → m' r' = m r') → RelE w' (XX F m' (S.set r ob)) m' (updO e ao.dst v) nt a' → a'.defers = a.defers → next a' w') :
    if Region.wanted o (yielded ops a.tmps) then o.wpIn (fen ro) n P a w next Q else (∀ f, o.about P w a.eval = some f → (fen ro).fn f) ∧ next (a.put o.dst Go.undef) w := by
  obtain ⟨hg', hop, hdo⟩ : o.guard = none ∧ cOp P o.op = some ao.op ∧ ao.dst = o.dst := by
    unfold cOper at hc
    split at hc
    · cases hc
    · rename_i ap hap
      split at hc
      · rename_i hgd
        cases hc
        exact ⟨hgd, hap, rfl⟩
      · split at hc
        · cases hc; cases hg
        · cases hc
  have hw : Region.wanted o (yielded ops a.tmps) = true := by simp [Region.wanted, hg']
  rw [if_pos hw]
  obtain ⟨v0, hao, hmd, hnc, hownO, hvv, hoo⟩ := rsv_aop (C := C) (W := W) (S := S) hrs
  unfold Oper.wpIn
  refine ⟨fun _ _ => fen_fn ro _, ?_⟩
  rw [Oper.semAt_eq _ _ _ (fun c e => by rw [e] at hop; cases hop)]
  obtain ⟨n', w', m1, hr, hcase, hev, hkp⟩ := aop_sim o hop hnc hE.opd (fun _ => rfl) h hao
  have hkeep := hkp hmd
  rw [hr]
  have main : ∀ u, V w' (XX F m1 (S ++ [ob])) m1 v0 u → next (a.put o.dst u) w' := by
    intro u hv0
    obtain ⟨⟨b, z, cap⟩, hx, _⟩ := hvv (m' := m1) hv0
    have hsn : (S ++ [ob])[S.length]? = some ob := getElem?_snoc_len S ob
    have hownS : ownAt (S ++ [ob]) S.length := ⟨ob, hsn, hownO⟩
    have hb : w.heap.size ≤ b := by
      rcases hev.own b ⟨S.length, z, cap, hx, hownS⟩ with ⟨r0, z0, c0, hm0, hw0⟩ | h1
      · have hd0 := h.dom hm0
        have hm1 := hev.mm _ _ hm0
        obtain ⟨o0, ho0, hwo⟩ := hw0
        have hw1 : ownAt (S ++ [ob]) r0 := ⟨o0, by rw [getElem?_snoc_lt _ _ hd0]; exact ho0, hwo⟩
        exact (hev.rel.ne r0 S.length b z0 c0 z cap (by omega) hm1 hx hw1 (own_live hownS)).elim
      · exact h1
    have hblt := liveAt_block hev.rel hx (own_live hownS)
    have hrl : r < S.length := (List.getElem?_eq_some_iff.1 hd).1
    obtain ⟨o2, ho2, hobj⟩ := hev.rel.obj _ _ _ _ hx
    rw [hsn] at ho2
    obtain rfl := Option.some.inj ho2
    have hXX : ∀ q, XX F (mput m r (b, z, cap)) (S.set r ob) q → XX F m1 (S ++ [ob]) q := by
      rintro q (hq | ⟨r', z', c', hm', o', ho', hw'⟩)
      · exact .inl hq
      · refine .inr ?_
        simp only [mput] at hm'
        split at hm'
        · cases hm'
          exact ⟨S.length, z, cap, hx, hownS⟩
        · rename_i hne
          have hdm := h.dom hm'
          rw [List.getElem?_set_ne (Ne.symm hne)] at ho'
          exact ⟨r', z', c', hev.mm _ _ hm', o', by rw [getElem?_snoc_lt _ _ hdm]; exact ho', hw'⟩
    have hobj2 : ObjR w' (XX F (mput m r (b, z, cap)) (S.set r ob)) (mput m r (b, z, cap)) b z cap ob :=
      (hoo (m' := mput m r (b, z, cap)) hobj).on (fun _ => rfl) (Nat.le_refl _) (fun _ _ _ => rfl) (fun q _ hq => hXX q hq) fun _ _ h => h
    have hput := Ev.put h ob r b z cap hd hm hb hev.os hev.tape hev.output hev.size hblt hkeep hobj2
    have hvn : V w' (XX F (mput m r (b, z, cap)) (S.set r ob)) (mput m r (b, z, cap)) v u := by
      obtain ⟨x, hx', hgo⟩ := hvv (m' := mput m r (b, z, cap)) hv0
      rw [hx] at hx'
      cases hx'
      exact (hgo (by simp [mput])).on (Nat.le_refl _) (fun _ _ _ => rfl) (fun q _ hq => hXX q hq) fun _ _ h => h
    refine hn _ w' _ hput (fun r' hr' => by simp only [mput]; rw [if_neg hr']) ?_ (put_defers _ _ _)
    rw [hdo] at hdst ⊢
    exact (⟨hE.size, fun t => (hE.val t).evP hput⟩ : RelE w' _ _ e nt a).put hvn hdst
  rcases hcase with ⟨u, rfl, hv⟩ | ⟨rfl, rfl⟩
  · rw [Oper.uponIn_value]; exact main u hv
  · rw [Oper.uponIn_skip]
    exact main Go.undef .undef

def cntF (L : Nat → Bool) : Nat → Nat
  | 0 => 0
  | k + 1 => cntF L k + if L k then 0 else 1

theorem cntF_all {L : Nat → Bool} : ∀ {k : Nat}, cntF L k = 0 → ∀ i, i < k → L i = true
  | 0, _, i, hi => by omega
  | k + 1, h, i, hi => by
    simp only [cntF] at h
    by_cases e : i = k
    · subst e
      cases hL : L i with
      | true => rfl
      | false => rw [hL] at h; simp at h
    · exact cntF_all (Nat.add_eq_zero_iff.1 h).1 i (by omega)

theorem cntF_set {L L' : Nat → Bool} {i : Nat} (hL : ∀ j, j ≠ i → L' j = L j) (h1 : L i = false) (h2 : L' i = true) : ∀ {k : Nat}, (k ≤ i → cntF L' k = cntF L k) ∧ (i < k → cntF L' k + 1 = cntF L k)
  | 0 => ⟨fun _ => rfl, fun h => by omega⟩
  | k + 1 => by
    obtain ⟨a, b⟩ := cntF_set hL h1 h2 (k := k)
    refine ⟨fun h => ?_, fun h => ?_⟩
    · simp only [cntF]; rw [a (by omega), hL k (by omega)]
    · simp only [cntF]
      by_cases e : k = i
      · subst e; rw [a (Nat.le_refl _), h1, h2]; simp
      · rw [hL k e, ← b (by omega)]; omega

theorem cntF_none : ∀ k, cntF (fun _ => false) k = k
  | 0 => rfl
  | k + 1 => by simp only [cntF, cntF_none k]; simp

theorem aop1_dst {C : Cfg} {W : Call} {q : Bool} {nt : Nat} {o : AOper} {e e' : Env} {S S' : Store} (h : aop1 C W q nt o e S = some (e', S')) {d : Nat} (hd : o.dst = some d) : d < nt := by
  rw [aop1_eq, hd] at h
  refine Classical.byContradiction fun hlt => ?_
  simp only [if_neg hlt] at h
  split at h
  · cases h
  · cases h
  · split at h <;> cases h

/-- How what is taken follows from the text. -/
def FitB (P : Program) (ops : Array Oper) (bs : List AOper) : Prop :=
  bs.length = ops.size ∧ ∀ (i : Nat) (o : Oper) (b : AOper), ops[i]? = some o → bs[i]? = some b → ∃ ao, cOper P ops o = some ao ∧ (b = ao ∨ (ao.guard = none ∧ ∃ r, b = { ao with op := .at r ao.op }))

theorem draw_go {C : Cfg} {bs : List AOper} (hwk : C.weak = true → ∀ (j : Nat) (p : AOper) (r : Nat), bs[j]? = some p → atOf p.op ≠ some r) {W : Call} (hW : SoundW P W) {q : Bool} {ops : Array Oper} {ps : List (Opd × Opd)} {k nt : Nat} {E : Nat → Env} {T : Nat → Store} {m0 : MM} {S0 : Store} {w0 : World} {a : Act}
    (fit : FitB P ops bs) (tr : Trace C W q nt bs E T) (ok : Ok q S0.length k ps (Region.before ops) bs)
    (h0 : ∀ (i : Nat) (o : AOper) (r : Nat), bs[i]? = some o → atOf o.op = some r → (T 0)[r]? = some .dead) (hap : apartOk (E bs.length) ps = true)
    {Q : Exit → Act → World → Prop} (hQ : ∀ a' w' m', Ev F m0 S0 w0 m' (T bs.length) w' → RelE w' (XX F m' (T bs.length)) m' (E bs.length) nt a' → a'.defers = a.defers → Q .normal a' w') :
    ∀ (fuel : Nat) (listed : Array Bool) (a' : Act) (w' : World) (m' : MM) (S' : Store) (c : Nat), listed.size = ops.size → cntF (fun i => listed.getD i false) bs.length ≤ fuel →
      (∀ j, listed.getD j false = true → ∀ j', ((Region.before ops).getD j 0).testBit j' = true → listed.getD j' false = true) →
      Ev F m0 S0 w0 m' S' w' → RelE w' (XX F m' S') m' (eAt (fun i => listed.getD i false) (fun i => (bs[i]?).bind (·.dst)) E bs.length) nt a' → St bs T (fun i => listed.getD i false) c S' →
      (∀ (i : Nat) (b : AOper) (r : Nat), bs[i]? = some b → atOf b.op = some r → listed.getD i false = false → m' r = none) → a'.defers = a.defers → wpAnyIn (fen ro) n P .any ops Q fuel listed a' w' := by
  have hE1 : ∀ i, i < bs.length → ∀ t, (bs[i]?).bind (·.dst) ≠ some t → E (i + 1) t = E i t := by
    intro i hi t ht
    obtain ⟨b, hb⟩ := get_of_lt hi
    obtain ⟨v, hv, _⟩ := aop1_move (tr i b hb) (fun _ _ => rfl)
    rw [hb] at ht
    simp only [Option.bind_some] at ht
    rw [hv, updO_at, if_neg ht]
  -- at the end
  have fin : ∀ (listed : Array Bool) (a' : Act) (w' : World) (m' : MM) (S' : Store) (c : Nat), (∀ i, i < bs.length → listed.getD i false = true) →
      Ev F m0 S0 w0 m' S' w' → RelE w' (XX F m' S') m' (eAt (fun i => listed.getD i false) (fun i => (bs[i]?).bind (·.dst)) E bs.length) nt a' → St bs T (fun i => listed.getD i false) c S' → a'.defers = a.defers → Q .normal a' w' := by
    intro listed a' w' m' S' c hall hev hE hst hd
    have hS := hst.all hall
    subst hS
    refine hQ a' w' m' hev ⟨hE.size, fun t => ?_⟩ hd
    rw [← eAt_use (L := fun i => listed.getD i false) (ds := fun i => (bs[i]?).bind (·.dst)) (E := E) (n := bs.length) hE1 (Nat.le_refl _) (fun j hj _ => hall j hj) (fun j h1 h2 => by omega)]
    exact hE.val t
  have hsz := fit.1
  have getT : ∀ (listed : Array Bool), listed.size = ops.size → ∀ j, j < bs.length → listed.getD j true = listed.getD j false := fun listed hl j hj => by
    have : j < listed.size := by omega
    simp [Array.getD, this]
  intro fuel
  induction fuel with
  | zero =>
    intro listed a' w' m' S' c hl hcnt hcl hev hE hst hun hd
    have hall := cntF_all (Nat.le_zero.1 hcnt)
    refine ⟨List.eq_nil_iff_forall_not_mem.2 fun j hj => ?_, fin listed a' w' m' S' c hall hev hE hst hd⟩
    obtain ⟨h1, o, ho, _⟩ := mem_ready.1 hj
    have hlt : j < bs.length := by have := (Array.getElem?_eq_some_iff.1 ho).1; omega
    rw [getT listed hl j hlt, hall j hlt] at h1
    cases h1
  | succ fuel ih =>
    intro listed a' w' m' S' c hl hcnt hcl hev hE hst hun hd
    refine ⟨fun hnil => ?_, fun i hi => ?_⟩
    · -- nothing is left
      refine fin listed a' w' m' S' c (fun i => ?_) hev hE hst hd
      induction i using Nat.strongRecOn with
      | _ i ihi =>
        intro hlt
        cases hLi : listed.getD i false with
        | true => rfl
        | false =>
          exfalso
          have hlt' : i < ops.size := by omega
          have hmem : i ∈ Region.ready .any ops listed := by
            refine mem_ready.2 ⟨by rw [getT listed hl i hlt]; exact hLi, ops[i], Array.getElem?_eq_getElem hlt', fun e he hb => ?_⟩
            have hbit := (before_bit (Array.getElem?_eq_getElem hlt') e.on).2 ⟨e, he, hb, .inl rfl⟩
            obtain ⟨b, hb'⟩ := get_of_lt hlt
            have hbf := ok.lt i b hb'
            have : e.on < i := by
              refine Nat.lt_of_not_le fun hle => ?_
              rw [Nat.testBit_lt_two_pow (Nat.lt_of_lt_of_le hbf (Nat.pow_le_pow_right (by omega) hle))] at hbit
              cases hbit
            exact ihi _ this (by omega)
          rw [hnil] at hmem
          simp at hmem
    · obtain ⟨hLt, o, ho, hafter⟩ := mem_ready.1 hi
      have hlt : i < bs.length := by have := (Array.getElem?_eq_some_iff.1 ho).1; omega
      rw [getT listed hl i hlt] at hLt
      obtain ⟨b, hb⟩ := get_of_lt hlt
      obtain ⟨ao, hao, hbao⟩ := fit.2 i o b ho hb
      have hrd : ∀ j, ((Region.before ops).getD i 0).testBit j = true → listed.getD j false = true := fun j hj => by
        obtain ⟨e, he, hbind, h⟩ := (before_bit ho j).1 hj
        have hon := hafter e he hbind
        rcases h with rfl | ⟨_, h⟩
        · exact hon
        · exact hcl _ hon j h
      have hset : ∀ j, (listed.setIfInBounds i true).getD j false = (listed.getD j false || j == i) := fun j => by
        have hil : i < listed.size := by omega
        by_cases e : j = i
        · subst e; simp [Array.getD, hil]
        · have : (j == i) = false := by simp [e]
          rw [this, Bool.or_false, getD_set_ne false (Ne.symm e)]
      -- its slots hold what they do in the text
      have he2 : ∀ t, t ∈ b.slots → eAt (fun i => listed.getD i false) (fun i => (bs[i]?).bind (·.dst)) E bs.length t = E i t := by
        intro t ht
        refine eAt_use hE1 (Nat.le_of_lt hlt) (fun j hj hdj => ?_) fun j hj hjn hLj hdj => ?_
        · obtain ⟨p, hp⟩ := get_of_lt (bs := bs) (i := j) (by omega)
          rw [hp] at hdj
          rcases ok.pair i j p b hj hp hb with h | h
          · exact hrd j h
          · simp only [looseOk, Bool.and_eq_true] at h
            exact (neSlot_spec h.1.1.1.1.1.1.1 ht hdj).elim
        · by_cases e : j = i
          · subst e; rw [hLt] at hLj; cases hLj
          · obtain ⟨p, hp⟩ := get_of_lt hjn
            rw [hp] at hdj
            rcases ok.pair j i b p (by omega) hb hp with h | h
            · rw [hcl j hLj i h] at hLt; cases hLt
            · simp only [looseOk, Bool.and_eq_true] at h
              exact neSlot_spec h.1.1.1.1.1.2 ht hdj
      have hid : ∀ r, usesId (eAt (fun i => listed.getD i false) (fun i => (bs[i]?).bind (·.dst)) E bs.length) b.op r → r < S'.length ∧ ∀ (j : Nat) (p : AOper), bs[j]? = some p → atOf p.op = some r → listed.getD j false = true := by
        intro r hr
        have hx : ∃ x, m' r = some x := by
          rcases hbao with rfl | ⟨_, r0, rfl⟩
          · have hcop : cOp P o.op = some b.op := by
              unfold cOper at hao
              repeat' split at hao
              all_goals first | (cases hao; done) | (cases hao; assumption)
            exact known_of hcop hE hr
          · exact hr.elim
        obtain ⟨x, hx⟩ := hx
        refine ⟨hev.rel.dom hx, fun j p hp hpr => ?_⟩
        cases hLj : listed.getD j false with
        | true => rfl
        | false => rw [hun j p r hp hpr hLj] at hx; cases hx
      obtain ⟨S2, v, c', hrun, hEv, hst2, hat⟩ := St.step hwk tr ok h0 hap hst hb hLt hset hrd hcl he2 hid
      -- the slots afterwards
      have hput : updO (eAt (fun i => listed.getD i false) (fun i => (bs[i]?).bind (·.dst)) E bs.length) b.dst v = eAt (fun j => (listed.setIfInBounds i true).getD j false) (fun i => (bs[i]?).bind (·.dst)) E bs.length := by
        funext t
        rw [eAt_put (L := fun i => listed.getD i false) hlt hset hLt (fun j hj hjn hLj d hdi hdj => ?_) t, updO_at]
        · simp only [hb, Option.bind_some]
          by_cases hd : b.dst = some t
          · rw [if_pos hd, if_pos hd, hEv, updO_at, if_pos hd]
          · rw [if_neg hd, if_neg hd]
        · obtain ⟨p, hp⟩ := get_of_lt hjn
          rw [hp] at hdj
          rw [hb] at hdi
          simp only [Option.bind_some] at hdj hdi
          rcases ok.pair j i b p hj hb hp with h | h
          · rw [hcl j hLj i h] at hLt; cases hLt
          · simp only [looseOk, Bool.and_eq_true] at h
            exact neSlot_spec h.1.1.1.1.1.1.2 (t := d) (by rw [hdj]; simp) hdi
      have hcnt' : cntF (fun j => (listed.setIfInBounds i true).getD j false) bs.length ≤ fuel := by
        have := (cntF_set (L := fun j => listed.getD j false) (L' := fun j => (listed.setIfInBounds i true).getD j false) (i := i) (fun j hj => getD_set_ne false (Ne.symm hj)) hLt (by simp only [hset]; simp) (k := bs.length)).2 hlt
        omega
      have hcl' : ∀ j, (listed.setIfInBounds i true).getD j false = true → ∀ j', ((Region.before ops).getD j 0).testBit j' = true → (listed.setIfInBounds i true).getD j' false = true := fun j hj j' hbit => by
        refine getD_set_true ?_
        by_cases e : j = i
        · subst e; exact hrd j' hbit
        · rw [getD_set_ne false (Ne.symm e)] at hj
          exact hcl j hj j' hbit
      have hunl : ∀ j, (listed.setIfInBounds i true).getD j false = false → listed.getD j false = false ∧ j ≠ i := fun j hj => by
        rw [hset] at hj
        simp only [Bool.or_eq_false_iff, beq_eq_false_iff_ne] at hj
        exact hj
      have go := fun a2 w2 m2 => ih (listed.setIfInBounds i true) a2 w2 m2 S2 c' (by simpa using hl) hcnt' hcl'
      have main : if Region.wanted o (yielded ops a'.tmps) then o.wpIn (fen ro) n P a' w' (wpAnyIn (fen ro) n P .any ops Q fuel (listed.setIfInBounds i true)) Q else (∀ f, o.about P w' a'.eval = some f → (fen ro).fn f) ∧ wpAnyIn (fen ro) n P .any ops Q fuel (listed.setIfInBounds i true) (a'.put o.dst Go.undef) w' := by
        rcases hbao with rfl | ⟨hg, r, hbr⟩
        · refine oper_step hW hao hev.rel hE hrun fun a2 w2 m2 hev2 hE2 hd2 => ?_
          rw [hput] at hE2
          refine go a2 w2 m2 (hev.trans hev2) hE2 hst2 (fun j p r hp hpr hLj => ?_) (hd2.trans hd)
          obtain ⟨hLj', hne⟩ := hunl j hLj
          rw [hev2.old r ?_]
          · exact hun j p r hp hpr hLj'
          · exact lt_of_some (hst.unborn j p r hp hpr hLj')
        · obtain ⟨ob, hrs, hdead, hS2⟩ := hat ao.op r (by rw [hbr])
          have hbat : atOf b.op = some r := by rw [hbr]; rfl
          have hdst : ∀ d, ao.dst = some d → d < nt := by
            intro d hd'
            exact aop1_dst hrun (by rw [hbr]; exact hd')
          have hbdst : b.dst = ao.dst := by rw [hbr]
          refine oper_at (C := C) (W := W) hao hg hev.rel hE hrs hdead (hun i b r hb hbat hLt) hdst fun a2 w2 m2 hev2 hold hE2 hd2 => ?_
          rw [← hS2] at hev2 hE2
          rw [← hbdst, hput] at hE2
          refine go a2 w2 m2 (hev.transP hev2 fun r' hr' => hold r' fun e => ?_) hE2 hst2 (fun j p r' hp hpr hLj => ?_) (hd2.trans hd)
          · subst e
            have := (ok.room i b r' hb hbat).2.2.1
            omega
          · obtain ⟨hLj', hne⟩ := hunl j hLj
            rw [hold r' fun e => ?_]
            · exact hun j p r' hp hpr hLj'
            · subst e; exact hne (ok.one j i p b r' hp hb hpr hbat)
      unfold wpOpIn
      simp only [ho]
      by_cases hw : Region.wanted o (yielded ops a'.tmps) = true
      · rw [if_pos hw] at main ⊢
        exact main
      · rw [if_neg hw] at main ⊢
        exact main

theorem draw_sound {C : Cfg} {bs : List AOper} (hwk : C.weak = true → ∀ (j : Nat) (p : AOper) (r : Nat), bs[j]? = some p → atOf p.op ≠ some r) {W : Call} (hW : SoundW P W) {q : Bool} {ops : Array Oper} {ps : List (Opd × Opd)} {k : Nat} {m : MM} {S S' : Store} {w : World} {e e' : Env} {nt : Nat} {a : Act}
    (fit : FitB P ops bs) (ok : Ok q S.length k ps (Region.before ops) bs) (h : Rel w F m S) (hE : RelE w (XX F m S) m e nt a) (ha : aops C W q nt bs e (S ++ List.replicate k .dead) = some (e', S')) (hap : apartOk e' ps = true)
    {Q : Exit → Act → World → Prop} (hQ : ∀ a' w' m', Ev F m S w m' S' w' → RelE w' (XX F m' S') m' e' nt a' → a'.defers = a.defers → Q .normal a' w') :
    wpAnyIn (fen ro) n P .any ops Q ops.size (Array.replicate ops.size false) a w := by
  obtain ⟨E, T, tr, e0, t0, en, tn⟩ := trace_of ha
  have h0 : ∀ (i : Nat) (o : AOper) (r : Nat), bs[i]? = some o → atOf o.op = some r → (T 0)[r]? = some .dead := fun i o r ho hr => by
    obtain ⟨_, _, h1, h2⟩ := ok.room i o r ho hr
    rw [t0, List.getElem?_append_right h1, List.getElem?_replicate, if_pos (by omega)]
  have hL0 : ∀ i, (Array.replicate ops.size false).getD i false = false := fun i => by simp [Array.getD]
  have hL : (fun i => (Array.replicate ops.size false).getD i false) = fun _ => false := funext hL0
  obtain ⟨c, hst⟩ := St.adv tr ok (L := fun _ => false) (S := T 0) (Nat.zero_le bs.length) (fun j o _ _ => by simp) rfl (fun _ _ => rfl) (fun j o r hj hr _ => h0 j o r hj hr) (fun j o r _ _ h => by cases h)
  have hroom := Ev.room h k
  rw [← tn, ← en] at hQ
  refine draw_go hwk hW fit tr ok h0 (by rw [en]; exact hap) hQ ops.size _ a w m (T 0) c (by simp) ?_ (fun j hj => by rw [hL0] at hj; cases hj) (by rw [t0]; exact hroom) ?_ (by rw [hL]; exact hst) (fun i b r hb hr _ => ?_) rfl
  · rw [hL, cntF_none]; exact Nat.le_of_eq fit.1
  · rw [hL]
    have : ∀ n, eAt (fun _ => false) (fun i => (bs[i]?).bind (·.dst)) E n = E 0 := by
      intro n
      induction n with
      | zero => rfl
      | succ n ih => funext t; simp only [eAt]; rw [if_neg (by simp), ih]
    rw [this, e0, t0]
    exact hE.ev hroom
  · obtain ⟨_, _, h1, _⟩ := ok.room i b r hb hr
    cases hm : m r with
    | none => rfl
    | some x => have := h.dom hm; omega

end
end Go.Am
