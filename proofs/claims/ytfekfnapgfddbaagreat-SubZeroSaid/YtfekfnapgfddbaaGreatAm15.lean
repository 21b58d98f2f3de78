/- Operations as the model takes them; regions in the order of the text. -/
import Derived.Test.YtfekfnapgfddbaaGreatAm14
import Derived.Test.YtfekfnapgfddbaaGreatAm23
set_option linter.unusedVariables false
set_option linter.unusedSimpArgs false
set_option linter.unusedSectionVars false
namespace Go.Am
open Go Go.RowKit
variable [HasProg]

/-- The slots. -/
structure RelE (w : World) (X : Nat → Prop) (m : MM) (e : Env) (nt : Nat) (a : Act) : Prop where
  size : a.tmps.size = nt
  val : ∀ t, V w X m (e t) (a.tmps.getD t Go.undef)

section
variable {P : Program} {F : Nat → Prop} {ro : Option Nat} {n : Nat}

theorem RelE.ev {m m' : MM} {S S' : Store} {w w' : World} {e : Env} {nt : Nat} {a : Act} (h : RelE w (XX F m S) m e nt a) (he : Ev F m S w m' S' w') : RelE w' (XX F m' S') m' e nt a :=
  ⟨h.size, fun t => (h.val t).ev he⟩

theorem getD_set_arr (tm : Array Value) (d t : Nat) (v : Value) (hd : d < tm.size) : (tm.setIfInBounds d v).getD t Go.undef = if t = d then v else tm.getD t Go.undef := by
  by_cases ht : t < tm.size
  · by_cases e : t = d
    · subst e; simp [Array.getD, ht]
    · have e' : ¬ d = t := fun h => e h.symm
      simp [Array.getD, ht, e, e', Array.getElem_setIfInBounds]
  · have e : ¬ t = d := by omega
    simp [Array.getD, ht, e]

theorem RelE.put {w : World} {X : Nat → Prop} {m : MM} {e : Env} {nt : Nat} {a : Act} (h : RelE w X m e nt a) {dst : Option Nat} {v : LV} {u : Value} (hv : V w X m v u) (hd : ∀ d, dst = some d → d < nt) :
    RelE w X m (updO e dst v) nt (a.put dst u) := by
  cases dst with
  | none => exact h
  | some d =>
    have hd' := hd d rfl
    refine ⟨by simp [Act.put, h.size], fun t => ?_⟩
    simp only [Act.put]
    rw [getD_set_arr _ _ _ _ (by rw [h.size]; exact hd')]
    by_cases e' : t = d
    · rw [if_pos e']; simp only [updO, upd]; rw [if_pos e']; exact hv
    · rw [if_neg e']; simp only [updO, upd]; rw [if_neg e']; exact h.val t

theorem RelE.opd {w : World} {X : Nat → Prop} {m : MM} {e : Env} {nt : Nat} {a : Act} (h : RelE w X m e nt a) : ∀ x x', cOpd x = some x' → V w X m (x'.ev e) (a.eval x) := by
  intro x x' hx
  cases x with
  | tmp t => cases hx; exact h.val t
  | const v =>
    simp only [cOpd] at hx
    split at hx
    · rename_i hh; cases hx; exact ofV_V v hh
    · cases hx
  | global g => cases hx
  | func f =>
    cases hx
    exact .fn rfl rfl (fun i hi => by simp at hi) fun i hi => by simp at hi

theorem put_defers (a : Act) (d : Option Nat) (v : Value) : (a.put d v).defers = a.defers := by cases d <;> rfl

/-- An operation whose guard holds. -/
theorem oper_run {C : Cfg} {W : Call} (hW : SoundW P W) {q : Bool} {m : MM} {S S' : Store} {w : World} {e : Env} {nt : Nat} {a : Act} {o : Oper} {ap : AOp} {v : LV} (hc : cOp P o.op = some ap)
    (h : Rel w F m S) (hE : RelE w (XX F m S) m e nt a) (ha : aop C W q e S ap = some (v, S')) {next : Act → World → Prop} {Q : Exit → Act → World → Prop}
    (hn : ∀ u w' m', Ev F m S w m' S' w' → V w' (XX F m' S') m' v u → next (a.put o.dst u) w') : o.wpIn (fen ro) n P a w next Q := by
  unfold Oper.wpIn
  refine ⟨fun _ _ => fen_fn ro _, ?_⟩
  rw [Oper.semAt_eq _ _ _ (fun c e => by rw [e] at hc; cases hc)]
  by_cases hcall : ∃ f xs, ap = .call f xs
  · obtain ⟨f, xs, rfl⟩ := hcall
    -- a call of a function
    obtain ⟨c, fo, hop, hcal, hf, hxs⟩ : ∃ c fo, o.op = .call c ∧ c.callee = .value fo ∧ cOpd fo = some f ∧ cOpds c.args.toList = some xs := by
      cases hop : o.op <;> simp only [hop, cOp] at hc
      case call c =>
        unfold cCall at hc
        split at hc
        · rename_i fo hcal
          split at hc
          · rename_i g ys hg hys
            cases hc
            exact ⟨c, fo, rfl, hcal, hg, hys⟩
          · cases hc
        all_goals (repeat' split at hc) <;> first | cases hc | (rename_i hh; cases hh) | skip
      all_goals (repeat' split at hc) <;> first | contradiction | cases hc | (simp only [Option.map_eq_some_iff] at hc; obtain ⟨_, _, hh⟩ := hc; cases hh) | skip
    simp only [aop] at ha
    split at ha
    · rename_i fid first caps hfe
      have hfv := hE.opd _ _ hf
      rw [hfe] at hfv
      obtain ⟨l1, v1⟩ := cOpds_spec hxs hE.opd
      generalize hfu : a.eval fo = fu at hfv
      cases hfv with
      | @fn _ _ _ _ us vs hl hl' hv1 hv2 =>
        obtain ⟨hcf, hcalls⟩ := acallM_sound hW ha
        have hexec : (execOp a.eval o).run P w = .ok (.enter fid (us ++ c.args.map a.eval ++ vs)) w := by
          simp only [execOp, hop, resolve, hcal, hfu, Deferred.ofValue, Sem.run_bind, Sem.run_pure, Result.andThen_ok, invoke]
          exact hcf _ _
        rw [hexec, Oper.uponIn_enter]
        refine ⟨fen_depth ro n, ?_⟩
        have hsz : (us ++ c.args.map a.eval ++ vs).size = (first ++ xs.map (·.ev e) ++ caps).length := by
          simp [hl, hl', l1]
        refine CallsIn.mono (calls_fen (hcalls F m w _ h hsz fun i hi => ?_)) ?_
        · rw [arr_getD']
          simp only [Array.toList_append, Array.toList_map]
          have g1 : us.toList.length = first.length := by simpa using hl
          have g2 : (c.args.toList.map a.eval).length = (xs.map (·.ev e)).length := by simp [l1]
          by_cases c1 : i < first.length
          · rw [List.append_assoc, List.append_assoc, getD_app_left _ _ _ _ c1, getD_app_left _ _ _ _ (by omega), ← arr_getD']
            exact hv1 i c1
          · have e1 : (first ++ xs.map (·.ev e) ++ caps).getD i .undef = (xs.map (·.ev e) ++ caps).getD (i - first.length) .undef := by
              rw [List.append_assoc]; exact getD_app_right first _ i _ (by omega)
            have e2 : (us.toList ++ c.args.toList.map a.eval ++ vs.toList).getD i Go.undef = (c.args.toList.map a.eval ++ vs.toList).getD (i - first.length) Go.undef := by
              rw [List.append_assoc, ← g1]; exact getD_app_right us.toList _ i _ (by omega)
            rw [e1, e2]
            by_cases c2 : i - first.length < (xs.map (·.ev e)).length
            · rw [getD_app_left _ _ _ _ c2, getD_app_left _ _ _ _ (by omega)]
              exact v1 _ (by simpa using c2)
            · rw [getD_app_right (xs.map (·.ev e)) _ _ _ (by omega), getD_app_right (c.args.toList.map a.eval) _ _ _ (by omega), g2, ← arr_getD']
              refine hv2 _ ?_
              simp only [List.length_append] at hi
              omega
        · rintro en w' ⟨u, m', rfl, hvu, hev⟩
          exact hn u w' m' hev hvu
    · -- a call of yield
      rename_i k hfe
      split at ha
      · cases ha
      · have hfv := hE.opd _ _ hf
        rw [hfe] at hfv
        obtain ⟨l1, v1⟩ := cOpds_spec hxs hE.opd
        generalize hfu : a.eval fo = fu at hfv
        cases hfv with
        | @yld _ _ l z cap hm =>
          obtain ⟨k', xs', hargs, hy⟩ := hW.2 _ _ _ _ ha
          cases hargs
          obtain ⟨fn, tmps, asg, body, hyr, hround⟩ := hy F m w l z cap (c.args.map a.eval) h hm (by simp [l1]) fun i hi => by
            rw [arr_getD', Array.toList_map]; exact v1 i (by simpa using hi)
          have hexec : (execOp a.eval o).run P w = .ok (.round l fn tmps asg body) w := by
            simp only [execOp, hop, resolve, hcal, hfu, Deferred.ofValue, Sem.run_bind, Sem.run_pure, Result.andThen_ok, invoke]
            simpa using hyr
          rw [hexec, Oper.uponIn_round]
          refine ⟨fen_depth ro n, RoundIn.mono (hround ro (n - 1)) ?_⟩
          rintro en w' ⟨u, m', rfl, hvu, hev⟩
          exact hn u w' m' hev hvu
    · cases ha
  · obtain ⟨n', w', m', hr, hcase, hev, hkp⟩ := aop_sim o hc (fun f xs e1 => hcall ⟨f, xs, e1⟩) hE.opd (fun _ => rfl) h ha
    rw [hr]
    rcases hcase with ⟨u, rfl, hv⟩ | ⟨rfl, rfl⟩
    · rw [Oper.uponIn_value]; exact hn u w' m' hev hv
    · rw [Oper.uponIn_skip]; exact hn Go.undef w' m' hev .undef

/-- An operation, its guard looked at. -/
theorem oper_step {C : Cfg} {W : Call} (hW : SoundW P W) {q : Bool} {m : MM} {S S' : Store} {w : World} {e e' : Env} {nt : Nat} {a : Act} {ops : Array Oper} {o : Oper} {ao : AOper} (hc : cOper P ops o = some ao)
    (h : Rel w F m S) (hE : RelE w (XX F m S) m e nt a) (ha : aop1 C W q nt ao e S = some (e', S')) {next : Act → World → Prop} {Q : Exit → Act → World → Prop}
    (hn : ∀ a' w' m', Ev F m S w m' S' w' → RelE w' (XX F m' S') m' e' nt a' → a'.defers = a.defers → next a' w') :
    if Region.wanted o (yielded ops a.tmps) then o.wpIn (fen ro) n P a w next Q else (∀ f, o.about P w a.eval = some f → (fen ro).fn f) ∧ next (a.put o.dst Go.undef) w := by
  unfold cOper at hc
  split at hc
  · cases hc
  · rename_i ap hap
    have run : ∀ dst, (match aop C W q e S ap with
        | none => none
        | some (v, S') => match dst with
          | none => some (e, S')
          | some d => if d < nt then some (upd e d v, S') else none) = some (e', S') → dst = o.dst → o.wpIn (fen ro) n P a w next Q := by
      intro dst hh hd
      split at hh
      · cases hh
      · rename_i v S1 hv
        have hS : S1 = S' ∧ updO e dst v = e' ∧ ∀ d, dst = some d → d < nt := by
          cases dst with
          | none => cases hh; exact ⟨rfl, rfl, fun d hd => by cases hd⟩
          | some d =>
            simp only at hh
            split at hh
            · rename_i hlt; cases hh; exact ⟨rfl, rfl, fun d' hd' => by cases hd'; exact hlt⟩
            · cases hh
        obtain ⟨rfl, rfl, hlt⟩ := hS
        refine oper_run hW hap h hE hv fun u w' m' hev hvu => ?_
        subst hd
        exact hn _ w' m' hev ((hE.ev hev).put hvu hlt) (put_defers _ _ _)
    split at hc
    · rename_i hg
      cases hc
      simp only [aop1] at ha
      have hw : Region.wanted o (yielded ops a.tmps) = true := by simp [Region.wanted, hg]
      rw [if_pos hw]
      exact run _ ha rfl
    · rename_i j want hg
      split at hc
      · rename_i d hd
        cases hc
        simp only [aop1] at ha
        have hundef : V w (XX F m S) m (.tup []) Go.undef := .tup (by simp [Go.undef]) (fun i hi => by simp at hi)
        have skip : (match o.dst with
            | none => some (e, S)
            | some d => if d < nt then some (upd e d (.tup []), S) else none) = some (e', S') → next (a.put o.dst Go.undef) w := by
          intro ha
          have hS : S = S' ∧ updO e o.dst (.tup []) = e' ∧ ∀ d, o.dst = some d → d < nt := by
            cases hod : o.dst with
            | none => rw [hod] at ha; cases ha; exact ⟨rfl, rfl, fun d hd => by cases hd⟩
            | some d =>
              rw [hod] at ha
              simp only at ha
              split at ha
              · rename_i hlt; cases ha; exact ⟨rfl, rfl, fun d' hd' => by cases hd'; exact hlt⟩
              · cases ha
          obtain ⟨rfl, rfl, hlt⟩ := hS
          exact hn _ w m (.refl h) (hE.put hundef hlt) (put_defers _ _ _)
        cases hed : e d with
        | bool b =>
          have hv := hE.val d
          rw [hed] at hv
          have hv := hv.bool_inv
          have hy : yielded ops a.tmps j = some b := by
            have hlt : d < a.tmps.size := by
              refine Nat.lt_of_not_le fun hle => ?_
              rw [Array.getD, dif_neg (by omega)] at hv
              cases hv
            have : a.tmps[d]? = some (.bool b) := by
              rw [Array.getD, dif_pos hlt] at hv
              rw [Array.getElem?_eq_getElem hlt]
              exact congrArg some hv
            simp [yielded, hd, this]
          have hw : Region.wanted o (yielded ops a.tmps) = (b == want) := by
            simp only [Region.wanted, hg, hy]
            cases b <;> cases want <;> rfl
          rw [hw]
          simp only [hed] at ha
          cases hbw : (b == want) with
          | true =>
            rw [hbw] at ha
            simp only [if_true]
            exact run _ ha rfl
          | false =>
            rw [hbw] at ha
            simp only [Bool.false_eq_true, if_false]
            exact ⟨fun _ _ => fen_fn ro _, skip ha⟩
        | tup l =>
          cases l with
          | cons => simp [hed] at ha
          | nil =>
            have hv := hE.val d
            rw [hed] at hv
            obtain ⟨vs, hvs⟩ : ∃ vs, a.tmps.getD d Go.undef = .tuple vs := by
              generalize a.tmps.getD d Go.undef = u at hv
              cases hv with
              | tup => exact ⟨_, rfl⟩
            have hy : yielded ops a.tmps j = none := by
              by_cases hlt : d < a.tmps.size
              · rw [Array.getD, dif_pos hlt] at hvs
                have : a.tmps[d]? = some (.tuple vs) := by rw [Array.getElem?_eq_getElem hlt]; exact congrArg some hvs
                simp [yielded, hd, this]
              · have : a.tmps[d]? = none := Array.getElem?_eq_none (Nat.le_of_not_lt hlt)
                simp [yielded, hd, this]
            have hw : Region.wanted o (yielded ops a.tmps) = false := by
              simp [Region.wanted, hg, hy]
            rw [hw]
            simp only [hed] at ha
            simp only [Bool.false_eq_true, if_false]
            exact ⟨fun _ _ => fen_fn ro _, skip ha⟩
        | _ => simp [hed] at ha
      · cases hc

/-- A region in the order of its text. -/
theorem ops_seq {C : Cfg} {W : Call} (hW : SoundW P W) {q : Bool} {ops : Array Oper} {Q : Exit → Act → World → Prop} : ∀ (l : List Nat) (os : List Oper) (as : List AOper), (∀ (i k : Nat), l[k]? = some i → ops[i]? = os[k]?) → l.length = os.length →
    mapO (cOper P ops) os = some as → ∀ {m : MM} {S S' : Store} {w : World} {e e' : Env} {nt : Nat} {a : Act}, Rel w F m S → RelE w (XX F m S) m e nt a → aops C W q nt as e S = some (e', S') →
    (∀ a' w' m', Ev F m S w m' S' w' → RelE w' (XX F m' S') m' e' nt a' → a'.defers = a.defers → Q .normal a' w') → wpOpsIn (fen ro) n P ops Q l a w
  | [], os, as, hl, hlen, hm, m, S, S', w, e, e', nt, a, h, hE, ha, hQ => by
    obtain rfl : os = [] := List.eq_nil_of_length_eq_zero (by simpa using hlen.symm)
    cases hm
    cases ha
    exact hQ a w m (.refl h) hE rfl
  | i :: l, os, as, hl, hlen, hm, m, S, S', w, e, e', nt, a, h, hE, ha, hQ => by
    cases os with
    | nil => simp at hlen
    | cons o os =>
      simp only [mapO] at hm
      split at hm
      · cases hm
      · rename_i ao hao
        split at hm
        · cases hm
        · rename_i as' has'
          cases hm
          simp only [aops] at ha
          split at ha
          · cases ha
          · rename_i e1 S1 ha1
            have hi : ops[i]? = some o := by have := hl i 0 (by simp); simpa using this
            have hstep := oper_step (Q := Q) hW hao h hE ha1 (ro := ro) (n := n) (next := wpOpsIn (fen ro) n P ops Q l) fun a' w' m' hev hE' hd => by
              refine ops_seq hW l os as' (fun i k hk => ?_) (by simpa using hlen) has' hev.rel hE' ha fun a'' w'' m'' hev' hE'' hd' => hQ a'' w'' m'' (hev.trans hev') hE'' (hd'.trans hd)
              have := hl i (k + 1) (by simpa using hk)
              simpa using this
            simp only [wpOpsIn, hi]
            by_cases hw : Region.wanted o (yielded ops a.tmps) = true
            · rw [if_pos hw] at hstep ⊢
              exact hstep
            · rw [if_neg hw] at hstep ⊢
              exact hstep

end
end Go.Am
