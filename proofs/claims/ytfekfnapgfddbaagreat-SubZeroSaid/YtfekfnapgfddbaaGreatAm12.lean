/- The join: whatever the plain machine says of an operation that is no call, the model does. -/
import Derived.Test.YtfekfnapgfddbaaGreatAm11
import Derived.Test.YtfekfnapgfddbaaGreatAm25
set_option linter.unusedVariables false
set_option linter.unusedSimpArgs false
set_option linter.unusedSectionVars false
namespace Go.Am
open Go Go.RowKit
variable [HasProg]

section
variable {G : Prop} {P : Program} {F : Nat → Prop} {m : MM} {S : Store} {w : World}

theorem cOpds_spec {xs : List Operand} {ys : List Opd} (h : cOpds xs = some ys) {e : Env} {ρ : Operand → Value} {X : Nat → Prop} {m : MM}
    (hρ : ∀ x x', cOpd x = some x' → V w X m (x'.ev e) (ρ x)) : ys.length = xs.length ∧ ∀ i, i < ys.length → V w X m ((ys.map (·.ev e)).getD i .undef) ((xs.map ρ).getD i Go.undef) := by
  refine ⟨mapO_length h, fun i hi => ?_⟩
  have hl := mapO_length h
  have hi' : i < xs.length := by omega
  obtain ⟨b, hb, hb'⟩ := mapO_get h i _ (List.getElem?_eq_getElem hi')
  have := hρ _ _ hb
  simp [List.getD, hb', hi']
  exact this

theorem closeAll_rows {vs : List LV} {r : Nat} {v : LV} (hv : v ∈ vs) (hr : r ∈ rowsOf v) : r ∈ vs.flatMap rowsOf := List.mem_flatMap.2 ⟨v, hv, hr⟩

theorem not_XX_freeze (h : Rel w F m S) {rs : List Nat} {r b z cap : Nat} (hr : r ∈ rs) (hm : m r = some (b, z, cap)) (hl : liveAt S r) (hrow : ∀ o, S[r]? = some o → ¬ ownO (freeze1 o)) : ¬ XX F m (freeze S rs) b := by
  rintro (hF | ⟨r', z', cap', hm', hw⟩)
  · exact h.sep r b z cap hm hl hF
  · by_cases e : r' = r
    · subst e
      obtain ⟨o, ho, how⟩ := hw
      rw [freeze_look] at ho
      cases hS : S[r']? with
      | none => rw [hS] at ho; cases ho
      | some o' =>
        rw [hS] at ho
        simp only [Option.map_some, hr, if_true, Option.some.injEq] at ho
        subst ho
        exact hrow o' hS how
    · exact h.ne r' r b z' cap' z cap e hm' hm (freeze_own hw) hl

theorem row_freeze {E z : Nat} {es : List LV} {mu : Bool} : ¬ ownO (freeze1 (.row E z es mu)) := by simp [freeze1, ownO]

/-- A value is closed, and the rows in it are frozen. -/
theorem close_freeze (h : Rel w F m S) {v d : LV} {u : Value} {rs : List Nat} (hv : V w (XX F m S) m v u) (hc : close S v = some d) (hrs : ∀ r, r ∈ rowsOf v → r ∈ rs) : V w (XX F m (freeze S rs)) M0 d u := by
  refine close_V h hv hc (fun q hq => ?_) fun r hr b z cap hm => ?_
  · rcases hq with hq | ⟨r', z', cap', hm', hw⟩
    · exact .inl hq
    · exact .inr ⟨r', z', cap', hm', freeze_own hw⟩
  · -- a row of the value is a row of the store
    have hrow : ∃ E z es mu, S[r]? = some (.row E z es mu) := by
      have : ∀ x, closeLeaf S x ≠ none → r ∈ rowsLeaf x → ∃ E z es mu, S[r]? = some (.row E z es mu) := by
        intro x hx hrx
        cases x <;> simp [rowsLeaf] at hrx
        subst hrx
        simp only [closeLeaf] at hx
        split at hx
        · rename_i E z es mu hS; exact ⟨_, _, _, _, hS⟩
        · exact (hx rfl).elim
      obtain ⟨x, hx, hrx⟩ := List.mem_flatMap.1 hr
      refine this x ?_ hrx
      by_cases hag : ∃ fs, v = .agg fs
      · obtain ⟨fs, rfl⟩ := hag
        simp only [close] at hc
        split at hc
        · cases hc
        · rename_i gs hgs
          obtain ⟨i, hi⟩ := List.mem_iff_getElem?.1 hx
          obtain ⟨b, hb, _⟩ := mapO_get hgs i x hi
          rw [hb]; simp
      · have hl : v.leaves = [v] := by cases v <;> first | rfl | exact (hag ⟨_, rfl⟩).elim
        rw [hl] at hx
        obtain rfl : x = v := by simpa using hx
        have : close S x = closeLeaf S x := by cases x <;> first | rfl | exact (hag ⟨_, rfl⟩).elim
        rw [← this, hc]; simp
    obtain ⟨E, z', es, mu, hS⟩ := hrow
    exact not_XX_freeze h (hrs r hr) hm ⟨_, hS, by simp⟩ fun o ho => by rw [hS] at ho; obtain rfl := Option.some.inj ho; exact row_freeze

theorem Ev.then {F : Nat → Prop} {m m1 : MM} {S S1 S2 : Store} {w : World} {v : LV} {r : Result Value} (e : Ev F m S w m1 S1 w) (h : Val G F m1 S1 w v S2 r) : Val G F m S w v S2 r := by
  obtain ⟨u, w', m', hr, hv, he, hk⟩ := h
  exact ⟨u, w', m', hr, hv, e.trans he, hk⟩

theorem Val.weak {G' : Prop} {F : Nat → Prop} {m : MM} {S S' : Store} {w : World} {v : LV} {r : Result Value} (h : Val False F m S w v S' r) (hg : ¬ G') : Val G' F m S w v S' r := by
  obtain ⟨u, w', m', hr, hv, he, hk⟩ := h
  exact ⟨u, w', m', hr, hv, he, fun g => (hg g).elim⟩

theorem V.nilp_inv {X : Nat → Prop} {u : Value} (h : V w X m .nilp u) : u = .pointer none := by cases h; rfl
theorem V.ref_inv {X : Nat → Prop} {r j k : Nat} {u : Value} (h : V w X m (.ref r j k) u) : ∃ a, u = .pointer (some a) := by cases h; exact ⟨_, rfl⟩
theorem V.imm_inv {X : Nat → Prop} {e : LV} {k : Nat} {u : Value} (h : V w X m (.imm e k) u) : ∃ a, u = .pointer (some a) := by cases h; exact ⟨_, rfl⟩
theorem V.row_inv {X : Nat → Prop} {r z o l : Nat} {u : Value} (h : V w X m (.row r z o l) u) : ∃ a n c, u = .slice (some a) n c := by cases h; exact ⟨_, _, _, rfl⟩
theorem V.nil_inv {X : Nat → Prop} {u : Value} (h : V w X m (.sl true []) u) : u = .slice none 0 0 := by
  cases h with
  | @sl _ _ _ a n' c z cv hn hcc hcm hnil h0 hz hb ho hvv =>
    obtain rfl := hnil.1 rfl
    obtain rfl := h0 rfl
    simp at hn
    subst hn; rfl
theorem V.sl_inv {X : Nat → Prop} {b : Bool} {es : List LV} {u : Value} (h : V w X m (.sl b es) u) : ∃ a n c, u = .slice a n c ∧ b = a.isNone := by
  cases h with
  | @sl _ _ _ a n' c z cv hn hcc hcm hnil h0 hz hb ho hvv =>
    refine ⟨_, _, _, rfl, ?_⟩
    cases a with
    | none => exact hnil.2 rfl
    | some a =>
      cases b with
      | false => rfl
      | true => exact absurd (hnil.1 rfl) (by simp)

set_option maxHeartbeats 1000000 in
theorem aop_sim {C : Cfg} {W : Call} {q : Bool} {e : Env} {ap : AOp} {v : LV} {S' : Store} {ρ : Operand → Value} (o : Oper) (hc : cOp P o.op = some ap) (hnc : ∀ f xs, ap ≠ .call f xs)
    (hρ : ∀ x x', cOpd x = some x' → V w (XX F m S) m (x'.ev e) (ρ x)) (hk : ∀ u, ρ (.const u) = u) (h : Rel w F m S) (ha : aop C W q e S ap = some (v, S')) : Out (mods q ap = false) F m S w v S' ((execOp ρ o).run P w) := by
  have hoo : ∀ (x : Option Operand) (y : Option Opd), cOO x = some y → (∀ v, y.map (·.ev e) = some v → ∃ u, x.map ρ = some u ∧ V w (XX F m S) m v u) ∧ (y.map (·.ev e) = none → x.map ρ = none) := by
    intro x y hxy
    cases x with
    | none => cases hxy; exact ⟨(fun v hv => by cases hv), fun _ => rfl⟩
    | some x =>
      simp only [cOO, Option.map_eq_some_iff] at hxy
      obtain ⟨y', hy', rfl⟩ := hxy
      exact ⟨(fun v hv => by cases hv; exact ⟨_, rfl, hρ _ _ hy'⟩), (fun hn => by cases hn)⟩
  cases hop : o.op with
  | move x =>
    simp only [hop, cOp, Option.map_eq_some_iff] at hc
    obtain ⟨x', hx', rfl⟩ := hc
    cases ha
    exact Out.val h (by simp [execOp, hop]) (hρ _ _ hx')
  | assign x =>
    simp only [hop, cOp, Option.map_eq_some_iff] at hc
    obtain ⟨x', hx', rfl⟩ := hc
    cases ha
    exact Out.val h (by simp [execOp, hop]) (hρ _ _ hx')
  | pick c a b =>
    simp only [hop, cOp] at hc
    split at hc
    · rename_i c' a' b' hc' ha' hb'
      cases hc
      simp only [aop] at ha
      split at ha
      · rename_i t ht
        cases ha
        have h1 := hρ _ _ hc'
        rw [ht] at h1
        have h1 := h1.bool_inv
        cases t with
        | true => exact Out.val h (by simp [execOp, hop, h1, asBool]) (hρ _ _ ha')
        | false => exact Out.val h (by simp [execOp, hop, h1, asBool]) (hρ _ _ hb')
      · cases ha
    · cases hc
  | alloc t =>
    simp only [hop, cOp] at hc
    split at hc
    · rename_i z hz
      cases hc
      simp only [aop] at ha
      split at ha
      · rename_i hs
        cases ha
        obtain ⟨hz1, hz2, hz3⟩ := zeroT_run hz w
        have hv := sim_newVar (G := mods q (AOp.alc (ofV z)) = false) (P := P) h hs (ofV_V (w := w) (X := XX F m S) (m := m) z hz3) t
        simp only [execOp, hop]
        refine Val.out (s := Instr.alloc t true (.tuple #[])) ?_
        simpa [Instr.alloc, hz1] using hv
      · cases ha
    · cases hc
  | box t x =>
    simp only [hop, cOp, Option.map_eq_some_iff] at hc
    obtain ⟨x', hx', rfl⟩ := hc
    simp only [aop] at ha
    split at ha
    · rename_i hs
      cases ha
      have hv := sim_newVar (G := mods q (AOp.box x') = false) (P := P) h hs (hρ _ _ hx') t
      simp only [execOp, hop]
      exact Val.out (s := Instr.box t (ρ x)) hv
    · cases ha
  | build t parts =>
    simp only [hop, cOp] at hc
    split at hc
    · rename_i z ps hag hz hps
      split at hc
      · rename_i hf
        cases hc
        simp only [aop] at ha
        split at ha
        · cases ha
        · rename_i fs hfs
          cases ha
          simp only [execOp, hop]
          exact Val.out (s := Instr.build t _) (sim_build h hag hz hf hps hρ hfs)
      · cases hc
    · cases hc
  | buildSlice t n parts =>
    simp only [hop, cOp] at hc
    split at hc
    · rename_i e' z' b' xs hT hx
      split at hc
      · rename_i hh
        cases hc
        simp only [aop, closeAll] at ha
        split at ha
        · cases ha
        · rename_i ds S1 hcl
          split at hcl
          · cases hcl
          · rename_i ds' hds
            cases hcl
            split at ha
            · rename_i hws
              cases ha
              simp only [Bool.and_eq_true] at hws
              have hsz := wellSized_iff hws.1
              obtain ⟨g1, g2⟩ := cElems_spec hx
              have hdl := mapO_length hds
              have ef := Ev.freeze h ((xs.map (·.ev e)).flatMap rowsOf)
              simp only [execOp, hop]
              refine Val.out (s := Instr.buildSlice t n _) ?_
              refine Ev.then ef ?_
              have hlen : (freeze S ((xs.map (·.ev e)).flatMap rowsOf)).length = S.length := freeze_length _ _
              rw [← hlen]
              refine sim_bsl ef.rel hT hh.2.1 hh.2.2.1 hh.2.2.2 hh.1 hx (ev := e) (us := parts.toList.map fun x => ρ x.2) rfl (by rw [List.length_map, ← g1, hdl, List.length_map]) hsz (fun d hd => ?_) fun i hi => ?_
              · obtain ⟨a, _, hca⟩ := mapO_mem hds hd
                exact close_solid hca
              · have hi1 : i < xs.length := by simp at hdl; omega
                have hi2 : i < parts.toList.length := by omega
                obtain ⟨d, hd, hd'⟩ := mapO_get hds i (xs[i].ev e) (by simp [hi1])
                have hv := hρ _ _ (g2 i _ _ (List.getElem?_eq_getElem hi2) (List.getElem?_eq_getElem hi1)).2
                rw [List.getD_eq_getElem?_getD, hd', List.getD_eq_getElem?_getD, List.getElem?_map, List.getElem?_eq_getElem hi2]
                exact close_freeze h hv hd fun r hr => closeAll_rows (by simp; exact ⟨_, List.getElem_mem hi1, rfl⟩) hr
            · cases ha
      · split at hc
        · rename_i hh
          cases hc
          cases ha
          obtain ⟨hp, rfl⟩ := hh
          obtain rfl : parts = #[] := Array.eq_empty_of_size_eq_zero hp
          obtain ⟨hu, i, zv, hi, hzv, hsi, hbi, hzs, hz0, hb, hzt⟩ := rowT_spec hT
          simp only [execOp, hop]
          refine Val.out (s := Instr.buildSlice t 0 _) ⟨.slice (some ⟨w.heap.size, 0, none⟩) 0 0, w.alloc (.cells #[] e'), m, ?_, .slz, Ev.ext h rfl rfl rfl (by rw [heap_push_size]; exact Nat.le_succ _) fun b hb => heap_push_old w _ hb, fun _ b hb => heap_push_old w _ hb⟩
          simp [Instr.buildSlice, Sem.run_bind, run_underlying hu, Go.sizeOf, typeInfo, hi, newRow, Instr.fill, (Array.eq_empty_of_size_eq_zero (by simp) : Array.range 0 = #[])]
        · cases hc
    · cases hc
  | load t x =>
    simp only [hop, cOp] at hc
    split at hc
    · rename_i a n x' hag hsz hx'
      cases hc
      have hv := hρ _ _ hx'
      simp only [execOp, hop]
      refine Val.out (s := Instr.loadAt t (ρ x)) ?_
      simp only [aop] at ha
      split at ha
      · rename_i r j k hr
        rw [hr] at hv
        split at ha
        · rename_i lv hS
          split at ha
          · rename_i hj
            simp only [Option.map_eq_some_iff] at ha
            obtain ⟨u, hu, he⟩ := ha
            cases he
            exact V.ref_load h hv hag hsz (.inl ⟨hS, hj⟩) hu
          · cases ha
        · rename_i E z es mu hS
          split at ha
          · rename_i lv hj
            simp only [Option.map_eq_some_iff] at ha
            obtain ⟨u, hu, he⟩ := ha
            cases he
            exact V.ref_load h hv hag hsz (.inr ⟨_, _, _, _, hS, hj⟩) hu
          · cases ha
        · cases ha
      · rename_i lv k hr
        rw [hr] at hv
        simp only [Option.map_eq_some_iff] at ha
        obtain ⟨u, hu, he⟩ := ha
        cases he
        exact V.imm_load h hv hag hsz hu
      · cases ha
    · cases hc
  | store t x y =>
    simp only [hop, cOp] at hc
    split at hc
    · rename_i n x' y' hsz hx' hy'
      cases hc
      have hv := hρ _ _ hx'
      have hvy := hρ _ _ hy'
      have hfin : ∀ {w' : World} {m' : MM} {S' : Store}, (Instr.storeAt t (ρ x) (ρ y)).run P w = .ok () w' → Ev F m S w m' S' w' → Out (mods q (.store n x' y') = false) F m S w .undef S' ((execOp ρ o).run P w) := by
        intro w' m' S' hr he
        exact ⟨.skip, w', m', by simp [execOp, hop, hr], .inr ⟨rfl, rfl⟩, he, fun g => by simp [mods] at g⟩
      simp only [aop] at ha
      split at ha
      · rename_i r j k hr
        rw [hr] at hv
        split at ha
        · rename_i u hS
          split at ha
          · rename_i hj
            obtain ⟨rfl, hl, hs⟩ := hj
            simp only [Option.map_eq_some_iff] at ha
            obtain ⟨u', hu', he⟩ := ha
            cases he
            obtain ⟨w', hr', he'⟩ := sim_store_cell (P := P) h hv hsz hS hvy hs hl hu'
            exact hfin hr' he'
          · cases ha
        · rename_i E z es hS
          split at ha
          · rename_i u d hj hd
            split at ha
            · rename_i hl
              simp only [Option.map_eq_some_iff] at ha
              obtain ⟨u', hu', he⟩ := ha
              cases he
              have hcv := close_V h (X := XX F m S) hvy hd (fun _ h => h) fun r hr => by rw [hl.2] at hr; simp at hr
              obtain ⟨w', hr', he'⟩ := sim_store_row (P := P) h hv hsz hS hj hcv (close_solid hd) hl.1 hu'
              exact hfin hr' he'
            · cases ha
          · cases ha
        · cases ha
      · cases ha
    · cases hc
  | nilCheck x =>
    simp only [hop, cOp, Option.map_eq_some_iff] at hc
    obtain ⟨x', hx', rfl⟩ := hc
    have hv := hρ _ _ hx'
    have hp : ∀ a : Addr, ρ x = .pointer (some a) → (execOp ρ o).run P w = .ok (.value (ρ x)) w := fun a e => by simp [execOp, hop, e]
    simp only [aop] at ha
    split at ha
    · rename_i r j k hr
      cases ha
      rw [hr] at hv
      obtain ⟨a, ea⟩ : ∃ a, ρ x = .pointer (some a) := by
        generalize ρ x = u at hv
        cases hv; exact ⟨_, rfl⟩
      exact Out.val h (hp a ea) hv
    · rename_i y k hr
      cases ha
      rw [hr] at hv
      obtain ⟨a, ea⟩ : ∃ a, ρ x = .pointer (some a) := by
        generalize ρ x = u at hv
        cases hv; exact ⟨_, rfl⟩
      exact Out.val h (hp a ea) hv
    · cases ha
  | binOp op t x y t' =>
    simp only [hop, cOp] at hc
    have hexec : (execOp ρ o).run P w = (do let u ← (do eqGuard op t x y (ρ x) (ρ y); binOp op t (ρ x) (ρ y) : Sem Value); pure (Next.value u) : Sem Next).run P w := by simp [execOp, hop]
    rw [hexec]
    have arith : ∀ x' y', cOpd x = some x' → cOpd y = some y' → ap = .bin op x' y' → Out (mods q ap = false) F m S w v S' ((do let u ← (do eqGuard op t x y (ρ x) (ρ y); binOp op t (ρ x) (ρ y) : Sem Value); pure (Next.value u) : Sem Next).run P w) := by
      intro x' y' hx' hy' e1
      subst e1
      simp only [aop, Option.map_eq_some_iff] at ha
      obtain ⟨u, hu, he⟩ := ha
      cases he
      obtain ⟨r, hr, hv⟩ := sim_bin (P := P) op t x y (hρ _ _ hx') (hρ _ _ hy') hu
      exact Val.out (Val.same h hr hv)
    have eqn : ∀ (neg : Bool) x', cOpd x = some x' → ap = .eqn neg x' → op = (if neg then .neq else .eql) → ∀ e0, P.underlying t = some (.pointer e0) → y = .const (.pointer none) →
        Out (mods q ap = false) F m S w v S' ((do let u ← (do eqGuard op t x y (ρ x) (ρ y); binOp op t (ρ x) (ρ y) : Sem Value); pure (Next.value u) : Sem Next).run P w) := by
      intro neg x' hx' e1 e2 e0 ht e3
      subst e1
      subst e2
      subst e3
      have hv := hρ _ _ hx'
      rw [hk]
      simp only [aop] at ha
      have key : ∀ {G : Prop} (p : Option Addr), ρ x = .pointer p → v = .bool (if neg then !p.isNone else p.isNone) → S' = S → Out G F m S w v S' ((do let u ← (do eqGuard (if neg then BinOp.neq else .eql) t x (.const (.pointer none)) (ρ x) (.pointer none); binOp (if neg then BinOp.neq else .eql) t (ρ x) (.pointer none) : Sem Value); pure (Next.value u) : Sem Next).run P w) := by
        intro _ p hp ev es
        subst es
        rw [hp]
        refine Val.out (Val.same h (sim_eqn_ptr neg t e0 x _ p ht) ?_)
        rw [ev]; exact .bool
      split at ha
      · rename_i hr
        cases ha
        rw [hr] at hv
        exact key none hv.nilp_inv (by cases neg <;> rfl) rfl
      · rename_i r j k hr
        cases ha
        rw [hr] at hv
        obtain ⟨a, hu⟩ := hv.ref_inv
        exact key _ hu (by cases neg <;> rfl) rfl
      · rename_i yy k hr
        cases ha
        rw [hr] at hv
        obtain ⟨a, hu⟩ := hv.imm_inv
        exact key _ hu (by cases neg <;> rfl) rfl
      · cases ha
    have eqs : ∀ (neg : Bool) x', cOpd x = some x' → ap = .eqs neg x' → op = (if neg then .neq else .eql) → ∀ e0, P.underlying t = some (.slice e0) → y = .const (.slice none 0 0) →
        Out (mods q ap = false) F m S w v S' ((do let u ← (do eqGuard op t x y (ρ x) (ρ y); binOp op t (ρ x) (ρ y) : Sem Value); pure (Next.value u) : Sem Next).run P w) := by
      intro neg x' hx' e1 e2 e0 ht e3
      subst e1
      subst e2
      subst e3
      have hv := hρ _ _ hx'
      rw [hk]
      simp only [aop] at ha
      have key : ∀ {G : Prop} (p : Option Addr) (n c : Nat), ρ x = .slice p n c → v = .bool (if neg then !p.isNone else p.isNone) → S' = S → Out G F m S w v S' ((do let u ← (do eqGuard (if neg then BinOp.neq else .eql) t x (.const (.slice none 0 0)) (ρ x) (.slice none 0 0); binOp (if neg then BinOp.neq else .eql) t (ρ x) (.slice none 0 0) : Sem Value); pure (Next.value u) : Sem Next).run P w) := by
        intro _ p n c hp ev es
        subst es
        rw [hp]
        refine Val.out (Val.same h (sim_eqn_sl neg t e0 x _ p n c ht) ?_)
        rw [ev]; exact .bool
      split at ha
      · rename_i n es hr
        cases ha
        rw [hr] at hv
        obtain ⟨a, n', c, hu, hb⟩ := hv.sl_inv
        exact key a _ _ hu (by rw [hb]) rfl
      · rename_i r z off len hr
        cases ha
        rw [hr] at hv
        obtain ⟨a, n', c, hu⟩ := hv.row_inv
        exact key _ _ _ hu (by cases neg <;> rfl) rfl
      · cases ha
    have eqb : ∀ (neg : Bool) x' y', cOpd x = some x' → cOpd y = some y' → ap = .eqb neg x' y' → op = (if neg then .neq else .eql) → P.underlying t = some .bool →
        Out (mods q ap = false) F m S w v S' ((do let u ← (do eqGuard op t x y (ρ x) (ρ y); binOp op t (ρ x) (ρ y) : Sem Value); pure (Next.value u) : Sem Next).run P w) := by
      intro neg x' y' hx' hy' e1 e2 ht
      subst e1
      subst e2
      have hv := hρ _ _ hx'
      have hv2 := hρ _ _ hy'
      simp only [aop] at ha
      split at ha
      · rename_i a b ea eb
        cases ha
        rw [ea] at hv
        rw [eb] at hv2
        rw [hv.bool_inv, hv2.bool_inv]
        exact Val.out (Val.same h (sim_eqb neg t x y a b ht) .bool)
      · cases ha
    split at hc
    · rename_i k' x' y' hu hx' hy'; exact arith x' y' hx' hy' (Option.some.inj hc).symm
    · rename_i x' y' hu hx' hy'; exact arith x' y' hx' hy' (Option.some.inj hc).symm
    · rename_i x' y' hu hx' hy'
      split at hc
      · exact eqb false x' y' hx' hy' (Option.some.inj hc).symm rfl hu
      · exact eqb true x' y' hx' hy' (Option.some.inj hc).symm rfl hu
      · cases hc
    · rename_i e0 x' hu hx'
      split at hc
      · exact eqn false x' hx' (Option.some.inj hc).symm rfl e0 hu rfl
      · exact eqn true x' hx' (Option.some.inj hc).symm rfl e0 hu rfl
      · cases hc
    · rename_i e0 x' hu hx'
      split at hc
      · exact eqs false x' hx' (Option.some.inj hc).symm rfl e0 hu rfl
      · exact eqs true x' hx' (Option.some.inj hc).symm rfl e0 hu rfl
      · cases hc
    · cases hc
  | unOp op t x =>
    simp only [hop, cOp, Option.map_eq_some_iff] at hc
    obtain ⟨x', hx', rfl⟩ := hc
    simp only [aop, Option.map_eq_some_iff] at ha
    obtain ⟨u, hu, he⟩ := ha
    cases he
    obtain ⟨r, hr, hv⟩ := sim_un (P := P) op (hρ _ _ hx') hu
    simp only [execOp, hop]
    exact Val.out (Val.same h hr hv)
  | convert src dst x =>
    simp only [hop, cOp] at hc
    simp only [execOp, hop]
    split at hc
    · rename_i ks kd x' hs hd hx'
      cases hc
      have hv := hρ _ _ hx'
      simp only [aop] at ha
      split at ha
      · rename_i k n hr
        cases ha
        rw [hr] at hv
        rw [hv.int_inv]
        refine Val.out (Val.same h (u := .int kd (kd.wrap n)) ?_ .int)
        simp [Go.convert, run_underlying hs, run_underlying hd, Conv.intToInt]
      · cases ha
    · rename_i e' x' hs hd hx'
      split at hc
      · rename_i he8
        cases hc
        simp only [aop] at ha
        split at ha
        · cases ha
        · rename_i es hes
          simp only [Option.map_eq_some_iff] at ha
          obtain ⟨l, hl, he⟩ := ha
          cases he
          exact Val.out (Val.same h (sim_b2s h hs he8 hd (hρ _ _ hx') hes hl) .str)
      · cases hc
    · cases hc
  | makeFunc fn first caps =>
    cases fn <;> simp only [hop, cOp] at hc <;> try (cases hc; done)
    rename_i fid
    split at hc
    · rename_i xs ys hxs hys
      cases hc
      cases ha
      obtain ⟨l1, v1⟩ := cOpds_spec hxs hρ
      obtain ⟨l2, v2⟩ := cOpds_spec hys hρ
      refine Out.val h (u := .func (.func fid) (first.map ρ) (caps.map ρ)) (by simp [execOp, hop, Instr.makeFunc]) ?_
      refine .fn (by simp [l1]) (by simp [l2]) (fun i hi => ?_) fun i hi => ?_
      · rw [arr_getD', Array.toList_map]; exact v1 i (by simpa using hi)
      · rw [arr_getD', Array.toList_map]; exact v2 i (by simpa using hi)
    · cases hc
  | makeSlice t l c =>
    simp only [hop, cOp] at hc
    split at hc
    · rename_i e' z' b' x' hT hx'
      split at hc
      · rename_i hsame
        split at hc
        · rename_i zv hz
          cases hc
          have hlc : l = c := by
            cases l <;> cases c <;> simp [sameOpd] at hsame
            rw [hsame]
          subst hlc
          have hv := hρ _ _ hx'
          simp only [aop] at ha
          split at ha
          · rename_i k n hr
            split at ha
            · rename_i hh
              cases ha
              rw [hr] at hv
              simp only [execOp, hop, hv.int_inv]
              exact Val.out (s := Instr.makeSlice t _ _) (sim_make h hT hz hh.1 hh.2)
            · cases ha
          · cases ha
        · cases hc
      · cases hc
    · cases hc
  | slice t x lo hi mx =>
    simp only [hop, cOp] at hc
    simp only [execOp, hop]
    refine Val.out (s := Instr.sliceAt t (ρ x) (lo.map ρ) (hi.map ρ) (mx.map ρ)) ?_
    split at hc
    · rename_i x' lo' hi' hu hx' hlo hhi hmx
      cases hc
      have hv := hρ _ _ hx'
      have hmx' : mx = none := by
        cases mx with
        | none => rfl
        | some y => simp only [cOO, Option.map_eq_some_iff] at hmx; obtain ⟨_, _, h3⟩ := hmx; cases h3
      subst hmx'
      simp only [aop, Option.map_eq_some_iff, Option.map_none] at ha
      obtain ⟨u, hu', he⟩ := ha
      cases he
      have hstr : ∃ s, x'.ev e = .str s := by
        generalize x'.ev e = lx at hu'
        cases lx <;> simp [aslice] at hu'
        exact ⟨_, rfl⟩
      obtain ⟨s, hs⟩ := hstr
      rw [hs] at hv hu'
      rw [hv.str_inv]
      exact sim_slice_str h hu (hoo _ _ hlo).1 (hoo _ _ hlo).2 (hoo _ _ hhi).1 (hoo _ _ hhi).2 hu'
    · rename_i e' x' lo' hi' mx' hu hx' hlo hhi hmx
      split at hc
      · rename_i z hz
        split at hc
        · rename_i hz0
          cases hc
          have hv := hρ _ _ hx'
          simp only [aop, Option.map_eq_some_iff] at ha
          obtain ⟨u, hu', he⟩ := ha
          cases he
          cases hm : mx'.map (·.ev e) with
          | none =>
            have := (hoo _ _ hmx).2 hm
            rw [this]
            rw [hm] at hu'
            refine sim_slice h hu hz hz0 hv (hoo _ _ hlo).1 (hoo _ _ hlo).2 (hoo _ _ hhi).1 (hoo _ _ hhi).2 hu' ?_
            intro s hs
            rw [hs] at hu'
            simp only [aslice] at hu'
            rw [if_neg (by omega)] at hu'
            cases hu'
          | some mv =>
            rw [hm] at hu'
            exact sim_slice_none h hu hz hv (hoo _ _ hlo).2 (hoo _ _ hhi).1 (fun v hv2 => (hoo _ _ hmx).1 v (by rw [hm]; exact hv2)) rfl hu'
        · cases hc
      · cases hc
    · cases hc
  | field t x f =>
    simp only [hop, cOp] at hc
    split at hc
    · rename_i off n ty x' hf hx'
      split at hc
      · rename_i g hg
        cases hc
        have hv := hρ _ _ hx'
        simp only [execOp, hop]
        refine Val.out (s := Instr.field t (ρ x) f) ?_
        obtain ⟨fs, fd, hu, hfd, hoff, hsz, hty⟩ : ∃ fs fd, P.underlying t = some (.struct fs) ∧ fs[f]? = some fd ∧ fd.offset = off ∧ sizeT P fd.type = some n ∧ fd.type = ty := by
          unfold fieldT at hf
          split at hf
          · rename_i fs hu
            split at hf
            · rename_i fd hfd
              split at hf
              · rename_i n' hsz
                split at hf
                · cases hf
                · cases hf; exact ⟨fs, fd, hu, hfd, rfl, hsz, rfl⟩
              · cases hf
            · cases hf
          · cases hf
        subst hoff
        subst hty
        simp only [aop] at ha
        split at ha
        · rename_i lf hr
          rw [hr] at hv
          generalize ρ x = ux at hv
          simp only [Option.map_eq_some_iff] at ha
          obtain ⟨u, hsub, he⟩ := ha
          cases he
          cases hv with
          | @agg _ _ vs hl h1 hh =>
            have hsub0 := hsub
            unfold Am.sub at hsub0
            have hvs := V.sub (w := w) (X := XX F m S) (m := m) (lv := .agg lf) (cv := fun q => vs.getD q Go.undef) h1 hh hsub (vs.extract fd.offset (fd.offset + n)) (fun hg => by
              subst hg
              rw [if_pos rfl] at hsub0
              have hle0 : fd.offset + n ≤ (LV.agg lf).leaves.length := Classical.byContradiction fun hno => by rw [if_neg hno] at hsub0; cases hsub0
              have hle : fd.offset + n ≤ lf.length := hle0
              refine ⟨by simp; omega, fun q hq => ?_⟩
              rw [arr_getD', arr_getD', Array.toList_extract, List.extract_eq_take_drop, List.getD_eq_getElem?_getD, List.getElem?_take, if_pos (by omega), List.getElem?_drop, List.getD_eq_getElem?_getD])
            refine Val.same h ?_ hvs.1
            simp only [Instr.field, Sem.run_bind, run_underlying hu, Result.andThen_ok, hfd, asAgg, Sem.run_pure, part, isAgg_run hg]
            cases g with
            | true => simp [Sem.run_bind, sizeOf_run hsz]
            | false =>
              simp only [Bool.false_eq_true, if_false, LV.leaves] at hsub0 ⊢
              have hlt : fd.offset < vs.size := by have := (List.getElem?_eq_some_iff.1 hsub0).1; omega
              simp [Array.getElem?_eq_getElem hlt, Array.getD, hlt]
        · cases ha
      · cases hc
    · cases hc
  | fieldAddr t x f =>
    simp only [hop, cOp] at hc
    split at hc
    · rename_i off n ty x' hf hx'
      cases hc
      have hv := hρ _ _ hx'
      simp only [execOp, hop]
      refine Val.out (s := Instr.fieldAt t (ρ x) f) ?_
      obtain ⟨fs, fd, hu, hfd, hoff, hsz, hn0⟩ : ∃ fs fd, P.underlying t = some (.struct fs) ∧ fs[f]? = some fd ∧ fd.offset = off ∧ sizeT P fd.type = some n ∧ n ≠ 0 := by
        unfold fieldT at hf
        split at hf
        · rename_i fs hu
          split at hf
          · rename_i fd hfd
            split at hf
            · rename_i n' hsz
              split at hf
              · cases hf
              · rename_i hn0; cases hf; exact ⟨fs, fd, hu, hfd, rfl, hsz, hn0⟩
            · cases hf
          · cases hf
        · cases hf
      have hrun : ∀ b o', ρ x = .pointer (some ⟨b, o', none⟩) → (Instr.fieldAt t (ρ x) f).run P w = .ok (.pointer (some ⟨b, o' + off, none⟩)) w := by
        intro b o' e1
        rw [e1]
        simp only [Instr.fieldAt, Sem.run_bind, run_underlying hu, Result.andThen_ok, hfd, Instr.sureAddr, Sem.run_pure, fieldPlace, sizeOf_run hsz, if_neg hn0, add_plain, hoff]
      simp only [aop] at ha
      split at ha
      · rename_i r j k hr
        cases ha
        rw [hr] at hv
        obtain ⟨b, z, cap, hm, e1⟩ : ∃ b z cap, m r = some (b, z, cap) ∧ ρ x = .pointer (some ⟨b, j * z + k, none⟩) := by
          generalize ρ x = u at hv
          cases hv with
          | ref hm => exact ⟨_, _, _, hm, rfl⟩
        refine Val.same h (hrun _ _ e1) ?_
        rw [Nat.add_assoc]
        exact .ref hm
      · rename_i y k hr
        cases ha
        rw [hr] at hv
        obtain ⟨b, o', cv, hs, hx, hb, hcell, h1, hvv, e1⟩ : ∃ (b o' : Nat) (cv : Nat → Value), solid y = true ∧ ¬ XX F m S b ∧ b < w.heap.size ∧ (∀ q, q < y.leaves.length → w.cell? ⟨b, o' + q, none⟩ = some (cv q)) ∧
            (∀ q, q < y.leaves.length → oneCell (cv q) = true) ∧ (∀ q, q < y.leaves.length → V w (XX F m S) M0 (y.leaves.getD q .undef) (cv q)) ∧ ρ x = .pointer (some ⟨b, o' + k, none⟩) := by
          generalize ρ x = u at hv
          cases hv with
          | imm hs hx hb hc h1 hvv => exact ⟨_, _, _, hs, hx, hb, hc, h1, hvv, rfl⟩
        refine Val.same h (hrun _ _ e1) ?_
        rw [Nat.add_assoc]
        exact .imm hs hx hb hcell h1 hvv
      · cases ha
    · cases hc
  | indexAddr t x i =>
    simp only [hop, cOp] at hc
    split at hc
    · rename_i e' x' i' hu hx' hi'
      split at hc
      · rename_i z hz
        cases hc
        have hv := hρ _ _ hx'
        have hvi := hρ _ _ hi'
        simp only [execOp, hop]
        refine Val.out (s := Instr.indexAt t (ρ x) (ρ i)) ?_
        simp only [aop] at ha
        split at ha
        · rename_i k n hin
          rw [hin] at hvi
          rw [hvi.int_inv]
          simp only [Option.map_eq_some_iff] at ha
          obtain ⟨u, hu', he⟩ := ha
          cases he
          exact sim_idx h hu hz hv hu'
        · cases ha
      · cases hc
    · rename_i n e' x' i' hu hx' hi'
      split at hc
      · rename_i z hz
        cases hc
        have hv := hρ _ _ hx'
        have hvi := hρ _ _ hi'
        simp only [execOp, hop]
        refine Val.out (s := Instr.indexAt t (ρ x) (ρ i)) ?_
        have hrun : ∀ b o' k (a : Int), ρ x = .pointer (some ⟨b, o', none⟩) → ρ i = .int k a → 0 ≤ a → a < n → (Instr.indexAt t (ρ x) (ρ i)).run P w = .ok (.pointer (some ⟨b, o' + a.toNat * z, none⟩)) w := by
          intro b o' k a e1 e2 h0 hl
          rw [e1, e2]
          simp [Instr.indexAt, asIntOf, run_underlying hu, Instr.sureAddr, sizeOf_run hz, h0, hl, add_plain]
        simp only [aop] at ha
        split at ha
        · rename_i r j k ki a hr hi
          rw [hr] at hv
          rw [hi] at hvi
          split at ha
          · rename_i hh
            cases ha
            obtain ⟨b, z', cap, hm, e1⟩ : ∃ b z cap, m r = some (b, z, cap) ∧ ρ x = .pointer (some ⟨b, j * z + k, none⟩) := by
              generalize ρ x = u at hv
              cases hv with
              | ref hm => exact ⟨_, _, _, hm, rfl⟩
            refine Val.same h (hrun _ _ _ _ e1 hvi.int_inv hh.1 hh.2) ?_
            rw [Nat.add_assoc]
            exact .ref hm
          · cases ha
        · rename_i y k ki a hr hi
          rw [hr] at hv
          rw [hi] at hvi
          split at ha
          · rename_i hh
            cases ha
            obtain ⟨b, o', cv, hs, hx, hb, hcell, h1, hvv, e1⟩ : ∃ (b o' : Nat) (cv : Nat → Value), solid y = true ∧ ¬ XX F m S b ∧ b < w.heap.size ∧ (∀ q, q < y.leaves.length → w.cell? ⟨b, o' + q, none⟩ = some (cv q)) ∧
                (∀ q, q < y.leaves.length → oneCell (cv q) = true) ∧ (∀ q, q < y.leaves.length → V w (XX F m S) M0 (y.leaves.getD q .undef) (cv q)) ∧ ρ x = .pointer (some ⟨b, o' + k, none⟩) := by
              generalize ρ x = u at hv
              cases hv with
              | imm hs hx hb hc h1 hvv => exact ⟨_, _, _, hs, hx, hb, hc, h1, hvv, rfl⟩
            refine Val.same h (hrun _ _ _ _ e1 hvi.int_inv hh.1 hh.2) ?_
            rw [Nat.add_assoc]
            exact .imm hs hx hb hcell h1 hvv
          · cases ha
        · cases ha
      · cases hc
    · cases hc
  | index t x i =>
    simp only [hop, cOp] at hc
    split at hc
    · rename_i x' i' hu hx' hi'
      cases hc
      have hv := hρ _ _ hx'
      have hvi := hρ _ _ hi'
      simp only [execOp, hop]
      refine Val.out (s := Instr.index t (ρ x) (ρ i)) ?_
      simp only [aop] at ha
      split at ha
      · rename_i s k n hr hi
        rw [hr] at hv
        rw [hi] at hvi
        split at ha
        · rename_i h0
          split at ha
          · rename_i b hb
            cases ha
            rw [hv.str_inv, hvi.int_inv]
            refine Val.same h (u := .int .u8 b.toNat) ?_ .int
            simp [Instr.index, asIntOf, run_underlying hu, h0, hb]
          · cases ha
        · cases ha
      · cases ha
    · cases hc
  | extract x i =>
    simp only [hop, cOp, Option.map_eq_some_iff] at hc
    obtain ⟨x', hx', rfl⟩ := hc
    have hv := hρ _ _ hx'
    simp only [execOp, hop]
    refine Val.out (s := Instr.extract (ρ x) i) ?_
    simp only [aop] at ha
    split at ha
    · rename_i vs hr
      split at ha
      · rename_i y hy
        cases ha
        rw [hr] at hv
        generalize ρ x = u at hv
        cases hv with
        | @tup _ _ us hl hvv =>
          have hlt := (List.getElem?_eq_some_iff.1 hy).1
          have hi := hvv i hlt
          rw [List.getD_eq_getElem?_getD, hy] at hi
          have hlt' : i < us.size := by omega
          rw [Array.getD, dif_pos hlt'] at hi
          exact Val.same h (u := us[i]) (by simp [Instr.extract, hlt']) hi
      · cases ha
    · cases ha
  | makeInterface t x => simp only [hop, cOp] at hc; cases hc; cases ha
  | panic x => simp only [hop, cOp] at hc; cases hc; cases ha
  | call c =>
    simp only [hop, cOp] at hc
    have hexec : ∀ b, c.callee = .builtin b → (execOp ρ o).run P w = (builtin b c.argTypes o.type (c.args.map fun | .const _ => true | _ => false) (c.args.map ρ)).run P w := by
      intro b hb
      simp only [execOp, hop, resolve, hb, invoke, Sem.run_bind, Sem.run_pure, Result.andThen_ok]
      rfl
    have arr1 : ∀ {α : Type} {a : Array α} {x : α}, a.toList = [x] → a = #[x] := fun h => by apply Array.toList_inj.1; simpa using h
    have arr2 : ∀ {α : Type} {a : Array α} {x y : α}, a.toList = [x, y] → a = #[x, y] := fun h => by apply Array.toList_inj.1; simpa using h
    unfold cCall at hc
    split at hc
    · -- a function
      split at hc
      · cases hc; exact (hnc _ _ rfl).elim
      · cases hc
    · -- len
      rename_i hcal
      rw [hexec _ hcal]
      split at hc
      · rename_i x t hxs hts
        rw [arr1 hxs, arr1 hts]
        simp only [builtin]
        refine Val.out (s := Builtin.len_ _ _ _) ?_
        split at hc
        · rename_i x' hu hx'
          cases hc
          have hv := hρ _ _ hx'
          simp only [aop] at ha
          split at ha
          · rename_i s hr
            cases ha
            rw [hr] at hv
            refine Val.same h (u := .int .i64 s.size) ?_ .int
            simp [Builtin.len_, run_underlying hu, hv.str_inv, goInt]
          · cases ha
        · rename_i e0 x' hu hx'
          cases hc
          have hv := hρ _ _ hx'
          simp only [aop, Option.map_eq_some_iff] at ha
          obtain ⟨n, hn, he⟩ := ha
          cases he
          have hsl : ∃ a c, ρ x = .slice a n c := by
            generalize ρ x = u at hv
            cases hxe : x'.ev e <;> rw [hxe] at hn hv <;> simp [lenOf] at hn
            · subst hn
              cases hv with
              | sl hl => subst hl; exact ⟨_, _, rfl⟩
            · subst hn; cases hv; exact ⟨_, _, rfl⟩
            · subst hn; cases hv; exact ⟨_, _, rfl⟩
          obtain ⟨a, c0, hsl⟩ := hsl
          refine Val.same h (u := .int .i64 n) ?_ .int
          simp [Builtin.len_, run_underlying hu, hsl, goInt]
        · cases hc
      · cases hc
    · -- append
      rename_i hcal
      rw [hexec _ hcal]
      split at hc
      · rename_i x y t t' hxs hts
        rw [arr2 hxs, arr2 hts]
        split at hc
        · rename_i htt
          subst htt
          split at hc
          · rename_i e0 z b x' y' hT hx' hy'
            cases hc
            have hvx := hρ _ _ hx'
            have hvy := hρ _ _ hy'
            simp only [aop] at ha
            split at ha
            · cases ha
            · rename_i ys hys
              split at ha
              · rename_i hws
                have hsz := wellSized_iff hws
                obtain ⟨a, n, c0, hu, hnc0, hcm, hlies, hac⟩ := elems_lies h hvy hys hsz
                have := sim_append (P := P) (ty := o.type) h hT hvx hu hlies hac hsz ha
                simp only [builtin]
                exact Val.out (s := Builtin.append_ _ _ _) (Val.weak (by simpa using this) (by simp [mods]))
              · cases ha
          · cases hc
        · cases hc
      · cases hc
    · -- max
      rename_i hcal
      rw [hexec _ hcal]
      split at hc
      · rename_i x xs hxs
        cases hc
        obtain ⟨l1, v1⟩ := cOpds_spec hxs hρ
        simp only [aop, Option.map_eq_some_iff] at ha
        obtain ⟨u, hu, he⟩ := ha
        cases he
        cases hal : c.args.toList with
        | nil => rw [hal] at l1; simp at l1
        | cons a as =>
          have v0 := v1 0 (by simp)
          rw [hal] at l1 v1 v0
          simp only [List.map_cons, List.getD_cons_zero] at v0
          simp only [builtin]
          refine Val.out (s := Builtin.max_ _ _ _) ?_
          have hml : (c.args.map ρ).toList = ρ a :: as.map ρ := by rw [Array.toList_map, hal]; rfl
          cases xs with
          | nil =>
            cases hu
            have : as = [] := List.eq_nil_of_length_eq_zero (by simpa using l1.symm)
            subst this
            exact Val.same h (u := ρ a) (by simp only [Builtin.max_]; rw [hml]; simp) v0
          | cons y ys =>
            have hx0 : ∃ k n, x.ev e = .int k n := by
              cases hxe : x.ev e <;> simp [hxe, amax] at hu
              exact ⟨_, _, rfl⟩
            obtain ⟨k, n, hx0⟩ := hx0
            rw [hx0] at v0 hu
            obtain ⟨r, hr, hv⟩ := sim_max (P := P) (w := w) (X := XX F m S) (m := m) ((y :: ys).map (·.ev e)) (as.map ρ) n (by simp at l1 ⊢; exact l1)
              (fun i hi => by have := v1 (i + 1) (by simp at hi ⊢; omega); simpa using this) hu
            refine Val.same h (u := r) ?_ hv
            simp only [Builtin.max_]; rw [hml, v0.int_inv]; exact hr
      · cases hc
    · -- min
      rename_i hcal
      rw [hexec _ hcal]
      split at hc
      · rename_i x xs hxs
        cases hc
        obtain ⟨l1, v1⟩ := cOpds_spec hxs hρ
        simp only [aop, Option.map_eq_some_iff] at ha
        obtain ⟨u, hu, he⟩ := ha
        cases he
        cases hal : c.args.toList with
        | nil => rw [hal] at l1; simp at l1
        | cons a as =>
          have v0 := v1 0 (by simp)
          rw [hal] at l1 v1 v0
          simp only [List.map_cons, List.getD_cons_zero] at v0
          simp only [builtin]
          refine Val.out (s := Builtin.min_ _ _ _) ?_
          have hml : (c.args.map ρ).toList = ρ a :: as.map ρ := by rw [Array.toList_map, hal]; rfl
          cases xs with
          | nil =>
            cases hu
            have : as = [] := List.eq_nil_of_length_eq_zero (by simpa using l1.symm)
            subst this
            exact Val.same h (u := ρ a) (by simp only [Builtin.min_]; rw [hml]; simp) v0
          | cons y ys =>
            have hx0 : ∃ k n, x.ev e = .int k n := by
              cases hxe : x.ev e <;> simp [hxe, amin] at hu
              exact ⟨_, _, rfl⟩
            obtain ⟨k, n, hx0⟩ := hx0
            rw [hx0] at v0 hu
            obtain ⟨r, hr, hv⟩ := sim_min (P := P) (w := w) (X := XX F m S) (m := m) ((y :: ys).map (·.ev e)) (as.map ρ) n (by simp at l1 ⊢; exact l1)
              (fun i hi => by have := v1 (i + 1) (by simp at hi ⊢; omega); simpa using this) hu
            refine Val.same h (u := r) ?_ hv
            simp only [Builtin.min_]; rw [hml, v0.int_inv]; exact hr
      · cases hc
    · -- copy
      rename_i hcal
      rw [hexec _ hcal]
      split at hc
      · rename_i x y t ts hxs hts
        split at hc
        · rename_i e0 z b x' y' hT hx' hy'
          split at hc
          · rename_i hh
            obtain ⟨rfl, _, hts2⟩ := hh
            cases hc
            rw [arr2 hxs, arr2 hts2]
            have hvx := hρ _ _ hx'
            have hvy := hρ _ _ hy'
            simp only [builtin]
            refine Val.out (s := Builtin.copy_ _ _ _) ?_
            simp only [aop] at ha
            split at ha
            · rename_i r zz off len ys hr hys
              split at ha
              · rename_i E' z' es hS
                split at ha
                · rename_i hh
                  obtain ⟨hle, rfl, rfl, hws⟩ := hh
                  cases ha
                  rw [hr] at hvx
                  have := sim_copy (P := P) (ty := o.type) h hT hvx hvy hys hws hS hle
                  exact Val.weak (by simpa using this) (by simp [mods])
                · cases ha
              · cases ha
            · rename_i ys hr hys
              split at ha
              · rename_i hws
                cases ha
                rw [hr] at hvx
                have := run_copy_nil (P := P) (ty := o.type) hT h hvy hys (wellSized_iff hws)
                rw [← hvx.nil_inv] at this
                exact Val.same h (u := goInt 0) (by simpa using this) .int
              · cases ha
            · cases ha
          · cases hc
        · cases hc
      · cases hc
    · -- clear
      rename_i hcal
      rw [hexec _ hcal]
      split at hc
      · rename_i x t hxs hts
        rw [arr1 hxs, arr1 hts]
        split at hc
        · rename_i e0 z b x' hT hx'
          split at hc
          · rename_i zv hz
            cases hc
            have hvx := hρ _ _ hx'
            simp only [builtin]
            refine Val.out (s := Builtin.clear_ _ _ _) ?_
            simp only [aop] at ha
            split at ha
            · rename_i r zz off len hr
              split at ha
              · rename_i E' z' es hS
                split at ha
                · rename_i hh
                  obtain ⟨hle, rfl, hl⟩ := hh
                  cases ha
                  rw [hr] at hvx
                  obtain ⟨w', hr', he'⟩ := sim_clear (P := P) (ty := o.type) h hT hz hvx hS hle hl
                  exact ⟨_, w', _, by simpa using hr', .undef, he', fun g => by simp [mods] at g⟩
                · cases ha
              · cases ha
            · rename_i hr
              cases ha
              rw [hr] at hvx
              obtain ⟨hu, _⟩ := rowT_spec hT
              refine Val.same h (u := .tuple #[]) ?_ .undef
              simp [Builtin.clear_, run_underlying hu, hvx.nil_inv]
            · cases ha
          · cases hc
        · cases hc
      · cases hc
    · cases hc
  | makeMap t r =>
    cases r with
    | some _ => simp only [hop, cOp] at hc; cases hc
    | none =>
      simp only [hop, cOp] at hc
      split at hc
      · cases hc
        cases ha
        simp only [execOp, hop]
        exact Val.out (s := Instr.makeMap t none) (sim_mkm h t)
      · cases hc
  | lookup t x k ok =>
    simp only [hop, cOp] at hc
    split at hc
    · rename_i x' k' ht hx' hk'
      cases hc
      have hvx := hρ _ _ hx'
      have hvk := hρ _ _ hk'
      simp only [aop] at ha
      split at ha
      · rename_i r a hr hka
        rw [hr] at hvx
        rw [hka] at hvk
        split at ha
        · rename_i es hS
          cases ha
          simp only [execOp, hop]
          rw [hvk.int_inv]
          exact Val.out (s := Instr.lookup t (ρ x) (.int .i64 a) ok) (sim_mlk h ht hS hvx a ok)
        · cases ha
      · cases ha
    · cases hc
  | mapUpdate t x k y =>
    simp only [hop, cOp] at hc
    split at hc
    · rename_i x' k' y' ht hx' hk' hy'
      cases hc
      have hvx := hρ _ _ hx'
      have hvk := hρ _ _ hk'
      have hvy := hρ _ _ hy'
      simp only [aop] at ha
      split at ha
      · rename_i r a b hr hka hyb
        rw [hr] at hvx
        rw [hka] at hvk
        rw [hyb] at hvy
        split at ha
        · rename_i es hS
          cases ha
          obtain ⟨w', h1, h2⟩ := sim_mup (P := P) h ht hS hvx a b
          refine ⟨.skip, w', m, ?_, .inr ⟨rfl, rfl⟩, h2, fun g => by simp [mods] at g⟩
          simp only [execOp, hop]
          rw [hvk.int_inv, hvy.int_inv]
          simp [h1, Result.andThen]
        · cases ha
      · cases ha
    · cases hc
  | _ => simp only [hop, cOp] at hc; cases hc

end
end Go.Am
