/- All calls of compiled functions. -/
import Derived.Test.YtfekfnapgfddbaaGreatAm17
set_option linter.unusedVariables false
set_option linter.unusedSimpArgs false
set_option linter.unusedSectionVars false
namespace Go.Am
open Go Go.RowKit
variable [HasProg]

section
variable {P : Program}

theorem one_result {F : Nat → Prop} {m : MM} {S : Store} {w : World} {e : Env} {nt : Nat} {a : Act} (h : Rel w F m S) (hE : RelE w (XX F m S) m e nt a) {rv : ResultVar} {r : ARes} {v : LV} (hc : cRes P rv = some r) (ha : ares e S r = some v) :
    ∃ u, (match rv with
      | .tmp t => pure (a.tmps.getD t Go.undef)
      | .cell b t => do loadVar t (← asAddr (a.tmps.getD b Go.undef)) : Sem Value).run P w = .ok u w ∧ V w (XX F m S) m v u := by
  cases rv with
  | tmp t => cases hc; cases ha; exact ⟨_, rfl, hE.val t⟩
  | cell b t =>
    simp only [cRes] at hc
    split at hc
    · rename_i g n hg hn
      cases hc
      simp only [ares] at ha
      split at ha
      · rename_i r hr
        have hv := hE.val b
        rw [hr] at hv
        split at ha
        · rename_i lv hS
          obtain ⟨u, hrun, hu⟩ := V.ref_read (P := P) h hv hg hn (.inl ⟨hS, rfl⟩) ha
          refine ⟨u, ?_, hu⟩
          obtain ⟨ad, had⟩ := hv.ref_inv
          rw [had] at hrun
          simp only [had, asAddr]
          simpa [Instr.loadAt, Instr.sureAddr] using hrun
        · cases ha
      · cases ha
    · cases hc

theorem mapM_results {F : Nat → Prop} {m : MM} {S : Store} {w : World} {e : Env} {nt : Nat} {a : Act} (h : Rel w F m S) (hE : RelE w (XX F m S) m e nt a) : ∀ (rvs : List ResultVar) {rs : List ARes} {vs : List LV}, mapO (cRes P) rvs = some rs → mapO (ares e S) rs = some vs →
    ∃ us : List Value, (rvs.mapM fun
      | .tmp t => pure (a.tmps.getD t Go.undef)
      | .cell b t => do loadVar t (← asAddr (a.tmps.getD b Go.undef)) : Sem (List Value)).run P w = .ok us w ∧ us.length = vs.length ∧ ∀ i, i < vs.length → V w (XX F m S) m (vs.getD i .undef) (us.getD i Go.undef)
  | [], rs, vs, hc, ha => by
    cases hc
    cases ha
    exact ⟨[], by simp, rfl, fun i hi => by simp at hi⟩
  | rv :: rvs, rs, vs, hc, ha => by
    simp only [mapO] at hc
    split at hc
    · cases hc
    · rename_i r hr
      split at hc
      · cases hc
      · rename_i rs' hrs
        cases hc
        simp only [mapO] at ha
        split at ha
        · cases ha
        · rename_i v hv
          split at ha
          · cases ha
          · rename_i vs' hvs
            cases ha
            obtain ⟨u, hu, hVu⟩ := one_result h hE hr hv
            obtain ⟨us, hus, hl, hVs⟩ := mapM_results h hE rvs hrs hvs
            refine ⟨u :: us, ?_, by simp [hl], fun i hi => ?_⟩
            · rw [List.mapM_cons]
              simp only [Sem.run_bind]
              rw [hu]
              simp only [Result.andThen_ok, Sem.run_bind]
              rw [hus]
              rfl
            · cases i with
              | zero => simpa using hVu
              | succ i => have := hVs i (by simpa using hi); simpa using this

theorem results_run {F : Nat → Prop} {m : MM} {S : Store} {w : World} {e : Env} {nt : Nat} {a : Act} (h : Rel w F m S) (hE : RelE w (XX F m S) m e nt a) {fn : Func} {rs : List ARes} {v : LV} (hc : mapO (cRes P) fn.results.toList = some rs) (ha : aresults rs e S = some v) :
    ∃ u, (results fn a.tmps).run P w = .ok u w ∧ V w (XX F m S) m v u := by
  unfold aresults at ha
  cases hm : mapO (ares e S) rs with
  | none => rw [hm] at ha; cases ha
  | some vs =>
    rw [hm] at ha
    obtain ⟨us, hus, hl, hVs⟩ := mapM_results h hE _ hc hm
    have hrun : (fn.results.mapM fun
      | .tmp t => pure (a.tmps.getD t Go.undef)
      | .cell b t => do loadVar t (← asAddr (a.tmps.getD b Go.undef)) : Sem (Array Value)).run P w = .ok us.toArray w := by
      rw [Array.mapM_eq_mapM_toList, Sem.run_map, hus]
      rfl
    refine ⟨if h : us.toArray.size = 1 then us.toArray[0] else .tuple us.toArray, ?_, ?_⟩
    · unfold results
      simp only [Sem.run_bind]
      erw [hrun]
      rfl
    · cases vs with
      | nil =>
        cases ha
        have : us = [] := List.eq_nil_of_length_eq_zero (by simpa using hl)
        subst this
        rw [dif_neg (by simp)]
        exact .tup (by simp) fun i hi => by simp at hi
      | cons v0 vs =>
        cases vs with
        | nil =>
          cases ha
          cases us with
          | nil => simp at hl
          | cons u us =>
            have : us = [] := List.eq_nil_of_length_eq_zero (by simpa using hl)
            subst this
            rw [dif_pos (by simp)]
            have := hVs 0 (by simp)
            simpa using this
        | cons v1 vs =>
          cases ha
          rw [dif_neg (by simp [hl])]
          refine .tup (by simpa using hl) fun i hi => ?_
          rw [arr_getD]; exact hVs i hi

/-! ### what a loop over a function leaves behind -/
theorem cell_touch {w : World} {D : Nat} (hD : w.heap[D]? = some (Go.Obj.deferred (some []))) (o : Go.Obj) {a : Addr} {c : Value} (h : w.cell? a = some c) : (w.putObj D o).cell? a = some c := by
  by_cases e : a.block = D
  · unfold World.cell? at h
    rw [e, hD] at h
    cases h
  · rw [← h]
    exact World.cell?_of_block (World.putObj_heap_other e)

theorem V.touch {w : World} {D : Nat} (hD : w.heap[D]? = some (Go.Obj.deferred (some []))) (o : Go.Obj) {X : Nat → Prop} {m : MM} {v : LV} {u : Value} (h : V w X m v u) : V (w.putObj D o) X m v u := by
  have hs : (w.putObj D o).heap.size = w.heap.size := by simp [World.putObj]
  induction h with
  | int => exact .int
  | bool => exact .bool
  | str => exact .str
  | agg hl h1 h ih => exact .agg hl h1 fun i hi => ih i hi
  | tup hl h ih => exact .tup hl fun i hi => ih i hi
  | sl hn hc hcm hnil h0 hz hb h1 hv ih =>
    refine .sl hn hc hcm hnil h0 hz (fun hp => ?_) h1 fun q hq => ih q hq
    obtain ⟨b, o', e, hx1, hlt, hcell⟩ := hb hp
    exact ⟨b, o', e, hx1, by omega, fun q hq => cell_touch hD o (hcell q hq)⟩
  | slz => exact .slz
  | row hm1 ha hl hc hcm => exact .row hm1 ha hl hc hcm
  | ref hm1 => exact .ref hm1
  | imm hs1 hx1 hb hc h1 hv ih => exact .imm hs1 hx1 (by omega) (fun q hq => cell_touch hD o (hc q hq)) h1 fun q hq => ih q hq
  | mp hm1 => exact .mp hm1
  | yld hm1 => exact .yld hm1
  | nilp => exact .nilp
  | fn hl hl' h h' ih ih' => exact .fn hl hl' (fun i hi => ih i hi) fun i hi => ih' i hi
  | undef => exact .undef

theorem ObjR.touch {w : World} {D : Nat} (hD : w.heap[D]? = some (Go.Obj.deferred (some []))) (o : Go.Obj) {X : Nat → Prop} {m : MM} {b z cap : Nat} {ob : Obj} (h : ObjR w X m b z cap ob) : ObjR (w.putObj D o) X m b z cap ob := by
  have other : ∀ x, w.heap[b]? = some x → x ≠ Go.Obj.deferred (some []) → (w.putObj D o).heap[b]? = some x := fun x hx hne => by
    rw [World.putObj_heap_other fun e => by subst e; rw [hD] at hx; exact hne (Option.some.inj hx).symm]; exact hx
  cases ob with
  | cell v => obtain ⟨T, c, hh, h1, h2, h3, h4⟩ := h; exact ⟨T, c, other _ hh (by simp), h1, h2, h3, fun q hq => (h4 q hq).touch hD o⟩
  | row E z' es mu => obtain ⟨h0, hz, h1, c, hh, h2, h3, h4, h5, h6⟩ := h; exact ⟨h0, hz, h1, c, other _ hh (by simp), h2, h3, h4, h5, fun q hq => (h6 q hq).touch hD o⟩
  | mapo es => obtain ⟨en, ck, hh, h1⟩ := h; exact ⟨en, ck, other _ hh (by simp), h1⟩
  | lp st nt e ps asg body => obtain ⟨rc, hh, h1, h2, h3, h4, h5⟩ := h; exact ⟨rc, other _ hh (by simp), h1, h2, h3, h4, fun t => (h5 t).touch hD o⟩
  | dead => trivial

theorem Ev.touch {F : Nat → Prop} {m m' : MM} {S S' : Store} {w w' : World} (h : Ev F m S w m' S' w') {D : Nat} (hD : w'.heap[D]? = some (Go.Obj.deferred (some []))) (hle : w.heap.size ≤ D) (o : Go.Obj) : Ev F m S w m' S' (w'.putObj D o) := by
  have hs : (w'.putObj D o).heap.size = w'.heap.size := by simp [World.putObj]
  have hsz := h.size
  refine ⟨⟨fun r b z cap hm => ?_, h.rel.ne, h.rel.sep, fun b hb => by rw [hs]; exact h.rel.lt b hb⟩, h.mm, h.os, h.tape, h.output, by omega, fun b hb ho => ?_, h.own, h.blk, h.len, h.old, fun D' hD' => ?_⟩
  · obtain ⟨ob, hob, hr⟩ := h.rel.obj r b z cap hm
    exact ⟨ob, hob, hr.touch hD o⟩
  · rw [World.putObj_heap_other (by omega)]; exact h.keep b hb ho
  · have := heap_lt hD'
    rw [World.putObj_heap_other (by omega)]; exact h.dfr D' hD'

theorem leave_marks {F : Nat → Prop} {m : MM} {S S' : Store} {w : World} {fn : Func} {rs : List ARes} {e : Env} {nt : Nat} {v : LV} (hc : mapO (cRes P) fn.results.toList = some rs) (hv : aresults rs e S' = some v) {n : Nat} :
    ∀ (Ds : List Nat) {m' : MM} {w' : World} {a' : Act}, Ds.Nodup → (∀ D, D ∈ Ds → w.heap.size ≤ D ∧ w'.heap[D]? = some (Go.Obj.deferred (some []))) → Ev F m S w m' S' w' → RelE w' (XX F m' S') m' e nt a' →
    LeavesInM (fen none) n P fn a'.tmps (Ret F m S w v S') (Ds.map markOf) .returning w'
  | [], m', w', a', hnd, hD, hev, hE => by
    obtain ⟨u, hu, hVu⟩ := results_run (P := P) hev.rel hE hc hv
    exact ⟨u, hu, u, m', rfl, hVu, hev⟩
  | D :: Ds, m', w', a', hnd, hD, hev, hE => by
    obtain ⟨h1, h2⟩ := hD D (by simp)
    obtain ⟨n1, n2⟩ := List.nodup_cons.1 hnd
    refine ⟨by simp, .inl ⟨D, _, rfl, run_takeDeferred h2, ?_⟩⟩
    refine leave_marks hc hv Ds (a' := a') n2 (fun D' hD' => ?_) (hev.touch h2 h1 _) ⟨hE.size, fun t => (hE.val t).touch h2 _⟩
    obtain ⟨q1, q2⟩ := hD D' (by simp [hD'])
    refine ⟨q1, ?_⟩
    rw [World.putObj_heap_other fun e => by subst e; exact n1 hD']; exact q2

theorem puts_rel {w : World} {X : Nat → Prop} {m : MM} {nt : Nat} : ∀ (ps : List Nat) (xs : List LV) (us : List Value) {e : Env} {tm : Array Value}, us.length = xs.length → xs.length = ps.length → ps.all (fun p => decide (p < nt)) = true →
    tm.size = nt → (∀ t, V w X m (e t) (tm.getD t Go.undef)) → (∀ i, i < xs.length → V w X m (xs.getD i .undef) (us.getD i Go.undef)) →
    RelE w X m (putL ps xs e) nt { tmps := (ps.zip us).foldl (fun t (p, v) => t.setIfInBounds p v) tm, defers := [] }
  | [], xs, us, e, tm, h1, h2, h3, h4, h5, h6 => by
    obtain rfl : xs = [] := List.eq_nil_of_length_eq_zero (by simpa using h2)
    exact ⟨h4, h5⟩
  | p :: ps, xs, us, e, tm, h1, h2, h3, h4, h5, h6 => by
    cases xs with
    | nil => simp at h2
    | cons x xs =>
      cases us with
      | nil => simp at h1
      | cons u us =>
        simp only [List.all_cons, Bool.and_eq_true, decide_eq_true_eq] at h3
        simp only [putL, List.zip_cons_cons, List.foldl_cons]
        refine puts_rel ps xs us (by simpa using h1) (by simpa using h2) h3.2 (by simp [h4]) (fun t => ?_) fun i hi => by have := h6 (i + 1) (by simpa using hi); simpa using this
        rw [getD_set_arr _ _ _ _ (by rw [h4]; exact h3.1)]
        have h0 := h6 0 (by simp)
        simp only [List.getD_cons_zero] at h0
        simp only [upd]
        by_cases e' : t = p
        · rw [if_pos e', if_pos e']; exact h0
        · rw [if_neg e', if_neg e']; exact h5 t

/-- A call of yield. -/
theorem around_sound {C : Cfg} (hC : HasProg.prog = P) {W : Call} (hW : SoundW P W) (hmix : P.follows .mixedOrders = true) {args : List LV} {S S' : Store} {r : LV} (ha : around C W args S = some (r, S')) : SoundYield P args S r S' := by
  unfold around at ha
  split at ha
  rotate_left
  · cases ha
  · rename_i k xs
    refine ⟨k, xs, rfl, fun F m w l z cap vs h hm hl hv => ?_⟩
    split at ha
    rotate_left
    · cases ha
    · rename_i nt e ps asg body hS
      split at ha
      rotate_left
      · cases ha
      · rename_i hps
        obtain ⟨o, ho, hr⟩ := h.obj k l z cap hm
        rw [hS] at ho
        obtain rfl := Option.some.inj ho
        obtain ⟨rc, hrc, ⟨hst, hpe⟩, hq1, hq2, hq3, hq4⟩ := hr
        obtain ⟨hlen, hall⟩ := hps
        obtain ⟨hca, hcb, hna, hnb⟩ := hq2
        rw [hC] at hca hcb
        subst hq1
        have hsz : vs.size = rc.params.size := by simp at hlen; omega
        refine ⟨_, _, _, _, run_yield hrc hsz, fun ro n => ?_⟩
        have hfold : (rc.params.zip vs).foldl (fun t (p, v) => t.setIfInBounds p v) rc.tmps = (rc.params.toList.zip vs.toList).foldl (fun t (p, v) => t.setIfInBounds p v) rc.tmps := by
          rw [← Array.foldl_toList, Array.toList_zip]
        have hE0 := puts_rel (w := w) (X := XX F m S) (m := m) rc.params.toList xs vs.toList (e := e) (tm := rc.tmps) (by simpa using hl) hlen hall hq3 hq4 fun i hi => by rw [← arr_getD']; exact hv i hi
        rw [← hfold] at hE0
        split at ha
        rotate_left
        · cases ha
        · rename_i e1 S1 hasg
          split at ha
          rotate_left
          · cases ha
          · rename_i nt1 f1 p1 a1 b1 hS1
            split at ha
            rotate_left
            · cases ha
            · rename_i x e2 S2 hbody
              split at ha
              rotate_left
              · cases ha
              · rename_i nt2 f2 p2 a2 b2 hS2
                cases ha
                have w1 := code_sound (F := F) (ro := some l) (n := n) hC hW hmix rc.assign hca (.inr hna) h hE0 hasg
                refine roundIn_of_wpIn (F := fen ro) (fen_fn ro _) (wpIn_mono (c := rc.assign) (F := fen (some l)) w1 ?_)
                rintro ex aa wa ⟨rfl, m1, hev1, hE1, _⟩
                have hm1 : m1 k = some (l, z, cap) := hev1.mm _ _ hm
                obtain ⟨o1, ho1, hr1⟩ := hev1.rel.obj _ _ _ _ hm1
                rw [hS1] at ho1
                obtain rfl := Option.some.inj ho1
                obtain ⟨rc1, hrc1, ⟨hst1, hpe1⟩, hq11, hq12, hq13, hq14⟩ := hr1
                have hlt1 := heap_lt hrc1
                have hset1 := Ev.set hev1.rel hm1 ⟨_, hS1, trivial⟩ (.lp .busy nt1 f1 p1 a1 b1) trivial (w' := wa.putObj l (.loop { rc1 with state := .busy })) rfl rfl rfl (by simp [World.putObj])
                  (fun q hq => World.putObj_heap_other (by omega)) fun hv => ⟨{ rc1 with state := .busy }, World.putObj_heap_same hlt1, rfl, hq11, hq12, hq13, fun t => hv (hq14 t)⟩
                show ∃ w₂, (Instr.beginRound l).run P wa = .ok () w₂ ∧ _
                refine ⟨_, run_beginRound hrc1 hst1, ?_⟩
                have w2 := code_sound (F := F) (ro := some l) (n := n) hC hW hmix rc.body hcb (.inr hnb) hset1.rel (hE1.ev hset1) hbody
                refine wpIn_mono (c := rc.body) (F := fen (some l)) w2 ?_
                rintro ex ab wb ⟨rfl, m2, hev2, hE2, _⟩
                have hm2 : m2 k = some (l, z, cap) := hev2.mm _ _ hm1
                obtain ⟨o2, ho2, hr2⟩ := hev2.rel.obj _ _ _ _ hm2
                rw [hS2] at ho2
                obtain rfl := Option.some.inj ho2
                obtain ⟨rc2, hrc2, hst2, hq21, hq22, hq23, hq24⟩ := hr2
                have hlt2 := heap_lt hrc2
                have hev := (hev1.trans hset1).trans hev2
                have fin : ∀ (jump : Option Code) (st : LSt), stR st { rc2 with state := if jump.isNone then .ready else .done, pending := jump } → (jump.isNone = decide (x = .nrm)) →
                    st = (if x = .nrm then .ready else .done x) →
                    ∃ v w', (Instr.endRound l jump).run P wb = .ok v w' ∧ Ret F m S w (.bool (decide (x = .nrm))) (S2.set k (.lp (if x = .nrm then .ready else .done x) nt2 f2 p2 a2 b2)) (.returned v) w' := by
                  intro jump st hstr hj hste
                  have hset2 := Ev.set hev2.rel hm2 ⟨_, hS2, trivial⟩ (.lp st nt2 f2 p2 a2 b2) trivial (w' := wb.putObj l (.loop { rc2 with state := if jump.isNone then .ready else .done, pending := jump })) rfl rfl rfl (by simp [World.putObj])
                    (fun q hq => World.putObj_heap_other (by omega)) fun hv => ⟨{ rc2 with state := if jump.isNone then .ready else .done, pending := jump }, World.putObj_heap_same hlt2, hstr, hq21, hq22, hq23, fun t => hv (hq24 t)⟩
                  rw [hste] at hset2
                  exact ⟨_, _, run_endRound jump hrc2, _, m2, rfl, by rw [hj]; exact .bool, hev.trans hset2⟩
                cases x with
                | nrm => exact fin none .ready ⟨rfl, rfl⟩ rfl rfl
                | ret => exact fin (some .ret) (.done .ret) ⟨rfl, by simp, rfl⟩ rfl rfl
                | exit id => exact fin (some (.exit id)) (.done (.exit id)) ⟨rfl, by simp, rfl⟩ (by simp) (by simp)

theorem body_sound {C : Cfg} (hC : HasProg.prog = P) {W : Call} (hW : SoundW P W) (hmix : P.follows .mixedOrders = true) {f : Nat} {af : AF} (hf : cFun P f = some af) {args : List LV} {S S' : Store} {r : LV} (ha : abody C W af args S = some (r, S')) : SoundAt P f args S r S' := by
  unfold cFun at hf
  split at hf
  · cases hf
  · rename_i fn hfn
    split at hf
    · cases hf
    · rename_i c hb
      split at hf
      · cases hf
      · rename_i hname
        split at hf
        · rename_i ac rs hac hrs
          cases hf
          refine ⟨fun w vs => ?_, fun F m w vs h hl hv => ?_⟩
          · simp [callFunc, hfn, hname, hb]
          · unfold abody at ha
            split at ha
            · rename_i hle
              refine (callsIn_wide (n := 0)).1 (callsIn_of_wp_marks (F := fen none) hfn hb trivial ?_)
              have hE : RelE w (XX F m S) m (fun t => args.getD t .undef) fn.ntmps { tmps := vs ++ Array.replicate (fn.ntmps - vs.size) Go.undef, defers := [] } := by
                refine ⟨by simp; simp at hle; omega, fun t => ?_⟩
                by_cases ht : t < args.length
                · have h1 := hv t ht
                  have e1 : (vs ++ Array.replicate (fn.ntmps - vs.size) Go.undef).getD t Go.undef = vs.getD t Go.undef := by
                    rw [arr_getD', arr_getD', Array.toList_append, getD_app_left _ _ _ _ (by simp; omega)]
                  rw [e1]; exact h1
                · have : args.getD t .undef = .undef := by rw [List.getD_eq_getElem?_getD, List.getElem?_eq_none (by omega)]; rfl
                  rw [this]; exact .undef
              have fin : ∀ x e' S1, acode C W fn.ntmps ac (fun t => args.getD t .undef) S = some (x, e', S1) → (x = .nrm ∨ x = .ret) → (aresults rs e' S1).map (fun v => (v, S1)) = some (r, S') → c.wpIn (fen none) 0 P (bodyPostM (fen none) 0 P fn (Ret F m S w r S')) { tmps := vs ++ Array.replicate (fn.ntmps - vs.size) Go.undef, defers := [] } w := by
                intro x e' S1 hcode hx hres
                refine wpIn_mono (code_sound hC hW hmix c hac (.inl rfl) h hE hcode) ?_
                rintro ex a' w' ⟨rfl, m', hev, hE', Ds, hd, hnd, hDs⟩
                simp only [Option.map_eq_some_iff] at hres
                obtain ⟨v, hv1, he⟩ := hres
                cases he
                have hl := leave_marks (n := 0) hrs hv1 Ds hnd hDs hev hE'
                have hd' : a'.defers = Ds.map markOf := by simpa using hd
                rw [← hd'] at hl
                rcases hx with rfl | rfl
                · exact hl
                · exact hl
              simp only at ha
              split at ha
              · rename_i e' S1 hcode; exact fin _ _ _ hcode (.inl rfl) ha
              · rename_i e' S1 hcode; exact fin _ _ _ hcode (.inr rfl) ha
              · cases ha
            · cases ha
        · cases hf

/-- A table of functions fits a program. -/
def Fits (P : Program) (T : Nat → Option Fun) : Prop :=
  T yB = none ∧ (∀ f af, T f = some (.code af) → cFun P f = some af) ∧ ∀ f g, T f = some (.ext g) → ∀ args S r S', g args S = some (r, S') → SoundAt P f args S r S'

theorem acall_sound {C : Cfg} (hC : HasProg.prog = P) {T : Nat → Option Fun} (hT : Fits P T) (hmix : P.follows .mixedOrders = true) : ∀ n, SoundW P (acall C T n)
  | 0 => ⟨fun f args S r S' _ h => (by cases h), fun args S r S' h => (by cases h)⟩
  | n + 1 => by
    refine ⟨fun f args S r S' hy h => ?_, fun args S r S' h => ?_⟩
    · simp only [acall] at h
      split at h
      · rename_i af hf; exact body_sound hC (acall_sound hC hT hmix n) hmix (hT.2.1 _ _ hf) h
      · rename_i g hg; exact hT.2.2 _ _ hg _ _ _ _ h
      · rw [if_neg hy] at h; cases h
    · simp only [acall] at h
      rw [hT.1] at h
      simp only [if_true] at h
      exact around_sound hC (acall_sound hC hT hmix n) hmix h

theorem W_sound {C : Cfg} (hC : HasProg.prog = P) {T : Nat → Option Fun} (hT : Fits P T) (hmix : P.follows .mixedOrders = true) : SoundW P (W C T) := by
  refine ⟨fun f args S r S' hy h => ?_, fun args S r S' h => ?_⟩
  · unfold W at h
    split at h
    · exact (acall_sound hC hT hmix _).1 f args S r S' hy h
    · cases h
  · unfold W at h
    split at h
    · exact (acall_sound hC hT hmix _).2 args S r S' h
    · cases h

end
end Go.Am
