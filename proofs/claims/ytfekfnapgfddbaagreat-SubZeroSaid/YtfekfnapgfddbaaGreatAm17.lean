/- Code, functions, and all calls. -/
import Derived.Test.YtfekfnapgfddbaaGreatAm16
set_option linter.unusedVariables false
set_option linter.unusedSimpArgs false
set_option linter.unusedSectionVars false
namespace Go.Am
open Go Go.RowKit
variable [HasProg]

def exOf : Ex → Exit
  | .nrm => .normal
  | .exit id => .exit id
  | .ret => .ret

section
variable {P : Program} {F : Nat → Prop} {ro : Option Nat} {n : Nat}

def markOf (D : Nat) : Deferred := { target := .collected D, args := #[] }
/-- The marks that loops over functions have left. -/
def Marks (w : World) (a a' : Act) (w' : World) : Prop :=
  ∃ Ds : List Nat, a'.defers = Ds.map markOf ++ a.defers ∧ Ds.Nodup ∧ ∀ D, D ∈ Ds → w.heap.size ≤ D ∧ w'.heap[D]? = some (Go.Obj.deferred (some []))

theorem Marks.same {w w' : World} {a a' : Act} (h : a'.defers = a.defers) : Marks w a a' w' := ⟨[], by simpa using h, List.nodup_nil, fun D hD => by cases hD⟩
theorem Marks.trans {w w1 w2 : World} {a a1 a2 : Act} {m1 m2 : MM} {S1 S2 : Store} (h : Marks w a a1 w1) (k : Marks w1 a1 a2 w2) (hs : w.heap.size ≤ w1.heap.size) (hev : Ev F m1 S1 w1 m2 S2 w2) : Marks w a a2 w2 := by
  obtain ⟨l1, e1, n1, p1⟩ := h
  obtain ⟨l2, e2, n2, p2⟩ := k
  refine ⟨l2 ++ l1, by rw [e2, e1]; simp, List.nodup_append.2 ⟨n2, n1, fun x hx y hy => ?_⟩, fun D hD => ?_⟩
  · have := (p2 x hx).1
    have := heap_lt (p1 y hy).2
    omega
  · rcases List.mem_append.1 hD with h | h
    · obtain ⟨q1, q2⟩ := p2 D h; exact ⟨by omega, q2⟩
    · obtain ⟨q1, q2⟩ := p1 D h; exact ⟨q1, hev.dfr D q2⟩

/-- What code comes to. -/
def CPost (F : Nat → Prop) (m : MM) (S : Store) (w : World) (nt : Nat) (a : Act) (x : Ex) (e' : Env) (S' : Store) (ex : Exit) (a' : Act) (w' : World) : Prop :=
  ex = exOf x ∧ ∃ m', Ev F m S w m' S' w' ∧ RelE w' (XX F m' S') m' e' nt a' ∧ Marks w a a' w'

theorem cOp_at {op : Op} {r : Nat} {ap : AOp} : cOp P op ≠ some (.at r ap) := by
  intro hc
  cases op <;> simp only [cOp] at hc
  case call c =>
    unfold cCall at hc
    repeat' split at hc
    all_goals first | (cases hc; done) | (simp only [Option.map_eq_some_iff] at hc; obtain ⟨_, _, hh⟩ := hc; cases hh; done) | skip
  all_goals (repeat' split at hc) <;> first | contradiction | (cases hc; done) | (simp only [Option.map_eq_some_iff] at hc; obtain ⟨_, _, hh⟩ := hc; cases hh; done) | skip

theorem shift_id {op : AOp} (h : ∀ r ap, op ≠ .at r ap) (b : Nat) : op.shift b = op := by
  cases op <;> first | rfl | exact (h _ _ rfl).elim

theorem tryDraw_ok {bf : Array Nat} {q : Bool} {k : Nat} {as : List AOper} {ps : List (Opd × Opd)} (h : tryDraw bf q k as = some ps) : Ok q 0 k ps bf as := by
  simp only [tryDraw] at h
  split at h
  · rename_i hh; cases h; exact okRow_ok hh
  · cases h

theorem Ok.none {bf : Array Nat} {q : Bool} {as : List AOper} {ps : List (Opd × Opd)} (h : Ok q 0 0 ps bf as) (lo : Nat) : Ok q lo 0 ps bf as :=
  ⟨h.lt, h.pair, h.fix, fun i o r ho hr => by obtain ⟨_, _, h1, h2⟩ := h.room i o r ho hr; omega, h.one⟩

theorem withRoom_spec (bf : Array Nat) (all : List (AOper × Nat)) : ∀ (l : List (AOper × Nat)) (k : Nat), (withRoom bf all l k).length = l.length ∧
    ∀ (i : Nat) (o : AOper) (j : Nat), l[i]? = some (o, j) → ∃ b, (withRoom bf all l k)[i]? = some b ∧ (b = o ∨ (o.guard = none ∧ ∃ r, b = { o with op := .at r o.op }))
  | [], k => ⟨rfl, fun i o j h => by simp at h⟩
  | (o, j) :: l, k => by
    simp only [withRoom]
    split
    · rename_i hh
      simp only [Bool.and_eq_true, Option.isNone_iff_eq_none] at hh
      obtain ⟨h1, h2⟩ := withRoom_spec bf all l (k + 1)
      refine ⟨by simp [h1], fun i p j' hp => ?_⟩
      cases i with
      | zero => simp at hp; obtain ⟨rfl, rfl⟩ := hp; exact ⟨_, rfl, .inr ⟨hh.1.2, k, rfl⟩⟩
      | succ i => exact h2 i p j' (by simpa using hp)
    · obtain ⟨h1, h2⟩ := withRoom_spec bf all l k
      refine ⟨by simp [h1], fun i p j' hp => ?_⟩
      cases i with
      | zero => simp at hp; obtain ⟨rfl, rfl⟩ := hp; exact ⟨_, rfl, .inl rfl⟩
      | succ i => exact h2 i p j' (by simpa using hp)

theorem fit_of {ops : Array Oper} {as : List AOper} (has : mapO (cOper P ops) ops.toList = some as) : as.length = ops.size ∧ ∀ (i : Nat) (o : Oper), ops[i]? = some o → ∃ ao, cOper P ops o = some ao ∧ as[i]? = some ao := by
  refine ⟨by simpa using mapO_length has, fun i o ho => ?_⟩
  obtain ⟨b, hb, hb'⟩ := mapO_get has i o (by simpa using ho)
  exact ⟨b, hb, hb'⟩

theorem cOper_at {ops : Array Oper} {o : Oper} {ao : AOper} (h : cOper P ops o = some ao) : ∀ r ap, ao.op ≠ .at r ap := by
  intro r ap e
  have hcop : cOp P o.op = some ao.op := by
    unfold cOper at h
    repeat' split at h
    all_goals first | (cases h; done) | (cases h; assumption)
  rw [e] at hcop
  exact cOp_at hcop

theorem reg_sound {C : Cfg} {W : Call} (hW : SoundW P W) (hmix : P.follows .mixedOrders = true) {id : Nat} {ops : Array Oper} {draw : Bool} {ac : AC}
    (hc : cCode P (.region id ops draw) = some ac) {m : MM} {S S' : Store} {w : World} {e e' : Env} {nt : Nat} {a : Act} {x : Ex} (h : Rel w F m S) (hE : RelE w (XX F m S) m e nt a) (ha : acode C W nt ac e S = some (x, e', S')) :
    (Code.region id ops draw).wpIn (fen ro) n P (CPost F m S w nt a x e' S') a w := by
  simp only [cCode] at hc
  split at hc
  · cases hc
  · rename_i as has
    obtain ⟨hl, hget⟩ := fit_of has
    split at hc
    · rename_i hdr
      rw [hdr]
      have ed := Ev.drawn h
      refine wpIn_region_any hmix ?_
      have plain : ∀ ps q, tryDraw (Region.before ops) q 0 as = some ps → acode C W nt (.reg as ps q) e S = some (x, e', S') → wpAnyIn (fen ro) n P .any ops (CPost F m S w nt a x e' S') ops.size (Array.replicate ops.size false) a { w with drawn := w.drawn + 1 } := by
        intro ps q hd ha
        simp only [acode] at ha
        split at ha
        · cases ha
        · rename_i e1 S1 hops
          split at ha
          · rename_i hap
            cases ha
            refine draw_sound (C := { C with weak := true }) (fun _ j p r hp hr => by obtain ⟨_, _, h1, h2⟩ := ((tryDraw_ok hd).none S.length).room j p r hp hr; omega) (k := 0) hW (bs := as) ⟨hl, fun i o b ho hb => ?_⟩ ((tryDraw_ok hd).none S.length) ed.rel (hE.ev ed) (by simpa using hops) hap fun a' w' m' hev hE' hdf => ⟨rfl, m', ed.trans hev, hE', .same hdf⟩
            obtain ⟨ao, h1, h2⟩ := hget i o ho
            rw [hb] at h2
            cases h2
            exact ⟨b, h1, .inl rfl⟩
          · cases ha
      split at hc
      · rename_i ps q hd
        cases hc
        simp only [cDraw] at hd
        split at hd
        · rename_i ps' ht; cases hd; exact plain _ _ ht ha
        · split at hd
          · rename_i ps' ht; cases hd; exact plain _ _ ht ha
          · split at hd <;> cases hd
      · rename_i k bs ps hd
        cases hc
        simp only [cDraw] at hd
        split at hd
        · cases hd
        · split at hd
          · cases hd
          · split at hd
            · rename_i ps' ht
              cases hd
              simp only [acode] at ha
              split at ha
              · cases ha
              · rename_i e1 S1 hops
                split at ha
                · rename_i hap
                  cases ha
                  obtain ⟨wl, wget⟩ := withRoom_spec (Region.before ops) as.zipIdx as.zipIdx 0
                  refine draw_sound (C := { C with weak := false }) (fun hh => by cases hh) hW ⟨by rw [List.length_map, wl]; simpa using hl, fun i o b ho hb => ?_⟩ ((tryDraw_ok ht).shift S.length) ed.rel (hE.ev ed) hops hap fun a' w' m' hev hE' hdf => ⟨rfl, m', ed.trans hev, hE', .same hdf⟩
                  obtain ⟨ao, h1, h2⟩ := hget i o ho
                  obtain ⟨b0, hb0, hcase⟩ := wget i ao i (by simp [List.getElem?_zipIdx, h2])
                  rw [List.getElem?_map, hb0] at hb
                  simp only [Option.map_some, Option.some.injEq] at hb
                  subst hb
                  have hna := cOper_at h1
                  rcases hcase with rfl | ⟨hg, r, rfl⟩
                  · refine ⟨b0, h1, .inl ?_⟩
                    simp only [AOper.shift]
                    rw [shift_id hna]
                  · exact ⟨ao, h1, .inr ⟨hg, S.length + r, rfl⟩⟩
                · cases ha
            · cases hd
      · cases hc
    · rename_i hdr
      cases hc
      have : draw = false := by cases draw <;> simp_all
      rw [this]
      refine wpIn_region ?_
      simp only [acode] at ha
      split at ha
      · cases ha
      · rename_i e1 S1 hops
        split at ha
        · cases ha
          refine ops_seq hW (List.range ops.size) ops.toList as (fun i k hk => ?_) (by simp) has h hE hops fun a' w' m' hev hE' hdf => ⟨rfl, m', hev, hE', .same hdf⟩
          have hlt := (List.getElem?_eq_some_iff.1 hk).1
          simp at hlt
          rw [List.getElem?_range hlt] at hk
          cases hk
          simp
        · cases ha

theorem stepR_scope {c : Code} {b : Frame} {a : Act} {k : List Item} {cs : List Frame} {w : World} :
    step P (lone (b.atR a (.code (.scope c) :: k)) cs w) = .next (lone (b.atR a (.code c :: .inScope c :: k)) cs w) :=
  step_lone_go (by simp [stepG, stepG.exec, Frame.atR])

theorem stepR_inScope {c : Code} {b : Frame} {a : Act} {k : List Item} {cs : List Frame} {w : World} : step P (lone (b.atR a (.inScope c :: k)) cs w) = .next (lone (b.atR a k) cs w) :=
  step_lone_go (by simp [stepG, stepG.exec, Frame.atR])

theorem wpIn_scope {FF : Fence} {c : Code} {Q : Exit → Act → World → Prop} {a : Act} {w : World} (h : c.wpIn FF n P (fun ex a' w' => (∀ l, ex ≠ .goto l) ∧ Q ex a' w') a w) : (Code.scope c).wpIn FF n P Q a w := by
  intro b k cs hro hb hr
  have h0 : (lone (b.atR a (.code (.scope c) :: k)) cs w).fenced P FF := fenced_calm hb hr rfl
  obtain ⟨e, a₁, w₁, ⟨hng, hq⟩, harr⟩ := h b (.inScope c :: k) cs hro hb hr
  cases e with
  | normal => exact ⟨.normal, a₁, w₁, hq, .head h0 stepR_scope (StepsIn.trans harr (.one (fenced_calm hb hr rfl) stepR_inScope))⟩
  | exit id =>
    have hx : exitTo id (.inScope c :: k) = exitTo id k := by simp [exitTo]
    exact ⟨_, a₁, w₁, hq, fun k' hk => .head h0 stepR_scope (harr.1 k' (by rw [hx]; exact hk)),
      fun hr' hk => let ⟨k₁, h1, h2⟩ := harr.2 hr' (by rw [hx]; exact hk); ⟨k₁, h1, .head h0 stepR_scope h2⟩⟩
  | goto l => exact (hng l rfl).elim
  | ret => exact ⟨_, a₁, w₁, hq, .of_steps (.one h0 stepR_scope) harr⟩
  | panic ch => exact ⟨_, a₁, w₁, hq, .of_steps (.one h0 stepR_scope) harr⟩
  | outgrown => exact ⟨_, a₁, w₁, hq, .of_steps (.one h0 stepR_scope) harr⟩

/-- A loop's rounds. -/
theorem loop_rounds {c : Code} (body : Env → Store → R3) {nt : Nat}
    (hb : ∀ {m : MM} {S : Store} {w : World} {e : Env} {a : Act} {x : Ex} {e' : Env} {S' : Store}, Rel w F m S → RelE w (XX F m S) m e nt a → body e S = some (x, e', S') → c.wpIn (fen ro) n P (CPost F m S w nt a x e' S') a w) :
    ∀ (k : Nat) {m : MM} {S : Store} {w : World} {e : Env} {a : Act} {x : Ex} {e' : Env} {S' : Store}, Rel w F m S → RelE w (XX F m S) m e nt a → aloop body k e S = some (x, e', S') → x ≠ .nrm →
      ∀ (b : Frame) (kk : List Item) (cs : List Frame), b.roundOf = (fen ro).round → ∃ ex a' w', CPost F m S w nt a x e' S' ex a' w' ∧ ArrivesIn (Machine.fenced P (fen ro)) P (lone (b.atR a (.code c :: .inLoop c :: kk)) cs w) b kk cs ex a' w'
  | 0, m, S, w, e, a, x, e', S', h, hE, hl, hx, b, kk, cs, hro => by cases hl
  | k + 1, m, S, w, e, a, x, e', S', h, hE, hl, hx, b, kk, cs, hro => by
    have room : ∀ j, (fen ro).room j := fun j d hd => by simp [fen, Fence.wide] at hd
    simp only [aloop] at hl
    split at hl
    · rename_i e1 S1 hbd
      obtain ⟨ex, a1, w1, ⟨hex, m1, hev, hE1, hd⟩, harr⟩ := hb h hE hbd b (.inLoop c :: kk) cs hro trivial (room _)
      subst hex
      obtain ⟨ex2, a2, w2, ⟨hex2, m2, hev2, hE2, hd2⟩, harr2⟩ := loop_rounds body hb k hev.rel hE1 hl hx b kk cs hro
      exact ⟨ex2, a2, w2, ⟨hex2, m2, hev.trans hev2, hE2, hd.trans hd2 hev.size hev2⟩, .of_steps (StepsIn.trans harr (.one (fenced_calm (n := n) trivial (room _) rfl) stepR_inLoop)) harr2⟩
    · rename_i hne
      obtain ⟨ex, a1, w1, hpost, harr⟩ := hb h hE hl b (.inLoop c :: kk) cs hro trivial (room _)
      refine ⟨ex, a1, w1, hpost, ?_⟩
      have hex := hpost.1
      subst hex
      cases x with
      | nrm => exact (hx rfl).elim
      | exit id => exact .pass (x := .inLoop c) rfl (fun _ _ => .inl (by simp [exOf])) harr
      | ret => exact .pass (x := .inLoop c) rfl (fun _ _ => .inl (by simp [exOf])) harr

theorem aloop_ne_nrm (body : Env → Store → R3) : ∀ (k : Nat) {e : Env} {S : Store} {e' : Env} {S' : Store}, aloop body k e S ≠ some (.nrm, e', S')
  | 0, e, S, e', S', h => by cases h
  | k + 1, e, S, e', S', h => by
    simp only [aloop] at h
    split at h
    · exact aloop_ne_nrm body k h
    · rename_i hne
      exact hne _ _ h

theorem code_sound {C : Cfg} (hC : HasProg.prog = P) {W : Call} (hW : SoundW P W) (hmix : P.follows .mixedOrders = true) : ∀ (c : Code) {ac : AC}, cCode P c = some ac → (ro = none ∨ noRng ac = true) → ∀ {m : MM} {S : Store} {w : World} {e : Env} {nt : Nat} {a : Act} {x : Ex} {e' : Env} {S' : Store},
    Rel w F m S → RelE w (XX F m S) m e nt a → acode C W nt ac e S = some (x, e', S') → c.wpIn (fen ro) n P (CPost F m S w nt a x e' S') a w := by
  intro c
  induction c with
  | skip =>
    intro ac hc hn m S w e nt a x e' S' h hE ha
    cases hc
    cases ha
    exact wpIn_skip ⟨rfl, m, .refl h, hE, .same rfl⟩
  | label l =>
    intro ac hc hn m S w e nt a x e' S' h hE ha
    cases hc
    cases ha
    exact wpIn_label ⟨rfl, m, .refl h, hE, .same rfl⟩
  | region id ops draw =>
    intro ac hc hn m S w e nt a x e' S' h hE ha
    exact reg_sound hW hmix hc h hE ha
  | seq c1 c2 ih1 ih2 =>
    intro ac hc hn m S w e nt a x e' S' h hE ha
    simp only [cCode] at hc
    split at hc
    · rename_i x1 x2 h1 h2
      cases hc
      simp only [acode] at ha
      refine wpIn_seq ?_
      split at ha
      · rename_i e1 S1 ha1
        refine wpIn_mono (ih1 h1 (hn.imp id fun hh => by simp [noRng] at hh; exact hh.1) h hE ha1) ?_
        rintro ex a1 w1 ⟨rfl, m1, hev, hE1, hd⟩
        refine wpIn_mono (ih2 h2 (hn.imp id fun hh => by simp [noRng] at hh; exact hh.2) hev.rel hE1 ha) ?_
        rintro ex a2 w2 ⟨rfl, m2, hev2, hE2, hd2⟩
        exact ⟨rfl, m2, hev.trans hev2, hE2, hd.trans hd2 hev.size hev2⟩
      · rename_i hne
        refine wpIn_mono (ih1 h1 (hn.imp id fun hh => by simp [noRng] at hh; exact hh.1) h hE ha) ?_
        rintro ex a1 w1 ⟨rfl, hh⟩
        cases x with
        | nrm => exact (hne _ _ ha).elim
        | exit id => exact ⟨rfl, hh⟩
        | ret => exact ⟨rfl, hh⟩
    · cases hc
  | cond co c1 c2 ih1 ih2 =>
    intro ac hc hn m S w e nt a x e' S' h hE ha
    simp only [cCode] at hc
    split at hc
    · rename_i co' x1 x2 hco h1 h2
      cases hc
      simp only [acode] at ha
      split at ha
      · rename_i t ht
        have hv := hE.opd _ _ hco
        rw [ht] at hv
        refine wpIn_cond hv.bool_inv ?_
        cases t with
        | true => exact ih1 h1 (hn.imp id fun hh => by simp [noRng] at hh; exact hh.1) h hE ha
        | false => exact ih2 h2 (hn.imp id fun hh => by simp [noRng] at hh; exact hh.2) h hE ha
      · cases ha
    · cases hc
  | block id c ih =>
    intro ac hc hn m S w e nt a x e' S' h hE ha
    simp only [cCode, Option.map_eq_some_iff] at hc
    obtain ⟨x1, h1, rfl⟩ := hc
    simp only [acode] at ha
    refine wpIn_block ?_
    split at ha
    · rename_i j e1 S1 ha1
      refine wpIn_mono (ih h1 (hn.imp (fun z => z) fun hh => by simpa [noRng] using hh) h hE ha1) ?_
      rintro ex a1 w1 ⟨rfl, hh⟩
      split at ha
      · rename_i hj
        cases ha
        simp only [exOf, Exit.inBlock, hj, if_true]
        exact ⟨rfl, hh⟩
      · rename_i hj
        cases ha
        simp only [exOf, Exit.inBlock, hj, if_false]
        exact ⟨rfl, hh⟩
    · rename_i hne
      refine wpIn_mono (ih h1 (hn.imp (fun z => z) fun hh => by simpa [noRng] using hh) h hE ha) ?_
      rintro ex a1 w1 ⟨rfl, hh⟩
      cases x with
      | nrm => exact ⟨rfl, hh⟩
      | exit j => exact (hne _ _ _ ha).elim
      | ret => exact ⟨rfl, hh⟩
  | loop c ih =>
    intro ac hc hn m S w e nt a x e' S' h hE ha
    simp only [cCode, Option.map_eq_some_iff] at hc
    obtain ⟨x1, h1, rfl⟩ := hc
    simp only [acode, loopW] at ha
    split at ha
    · rename_i hk
      intro b kk cs hro hb0 hr0
      have hx : x ≠ .nrm := fun e1 => by subst e1; exact aloop_ne_nrm _ _ ha
      obtain ⟨ex, a', w', hp, harr⟩ := loop_rounds (P := P) (c := c) (acode C W nt x1) (fun h hE hb => ih h1 (hn.imp (fun z => z) fun hh => by simpa [noRng] using hh) h hE hb) _ h hE ha hx b kk cs hro
      exact ⟨ex, a', w', hp, .of_steps (.one (fenced_calm hb0 hr0 rfl) stepR_loop) harr⟩
    · cases ha
  | rangeFunc f ps ca cb iha ihb =>
    intro ac hc hn m S w e nt a x e' S' h hE ha
    simp only [cCode] at hc
    split at hc
    · rename_i f' x1 x2 hf h1 h2
      split at hc
      · rename_i hnr
        cases hc
        obtain rfl : ro = none := hn.resolve_right (by simp [noRng])
        simp only [Bool.and_eq_true] at hnr
        simp only [acode] at ha
        split at ha
        · rename_i g first caps hfe
          split at ha
          · cases ha
          rename_i hgy
          split at ha
          · cases ha
          · rename_i r S2 hcall
            have hfv := hE.opd _ _ hf
            rw [hfe] at hfv
            generalize hfu : a.eval f = fu at hfv
            cases hfv with
            | @fn _ _ _ _ us vs hl hl' hv1 hv2 =>
              refine wpIn_rangeFunc fun fn _ => ?_
              obtain ⟨w1, hw1⟩ : ∃ w1, (w.alloc (.deferred (some []))).alloc (.loop { state := .ready, pending := none, fn, tmps := a.tmps, params := ps, assign := ca, body := cb, defers := w.heap.size }) = w1 := ⟨_, rfl⟩
              have hL : w1.heap[w.heap.size + 1]? = some (.loop { state := .ready, pending := none, fn, tmps := a.tmps, params := ps, assign := ca, body := cb, defers := w.heap.size }) := by
                rw [← hw1, ← heap_push_size w (.deferred (some []))]; exact heap_push_new _ _
              have hD : w1.heap[w.heap.size]? = some (.deferred (some [])) := by
                rw [← hw1, heap_push_old _ _ (by rw [heap_push_size]; omega)]; exact heap_push_new _ _
              have hold : ∀ b, b < w.heap.size → w1.heap[b]? = w.heap[b]? := fun b hb => by
                rw [← hw1, heap_push_old _ _ (by rw [heap_push_size]; omega), heap_push_old _ _ hb]
              have hsz : w1.heap.size = w.heap.size + 2 := by rw [← hw1, heap_push_size, heap_push_size]
              have hev1 : Ev F m S w (mput m S.length (w.heap.size + 1, 0, 0)) (S ++ [.lp .ready nt e ps.toList x1 x2]) w1 := by
                refine Ev.add h _ (w.heap.size + 1) 0 0 (by omega) (by rw [← hw1]; rfl) (by rw [← hw1]; rfl) (by rw [← hw1]; rfl) (by omega) (by omega) hold fun X hX => ?_
                exact ⟨_, hL, ⟨rfl, rfl⟩, rfl, (by unfold KC; rw [hC]; exact ⟨h1, h2, hnr.1, hnr.2⟩), hE.size, fun t => (hE.val t).on (by omega) (fun b hb _ => hold b hb) (fun b hb hx => hX b hb hx) (mput_old h _)⟩
              obtain ⟨hcf, hcalls⟩ := hW.1 _ _ _ _ _ hgy hcall
              refine ⟨w.heap.size + 1, [markOf w.heap.size], w1, { target := .fn (.func g) vs, args := us ++ #[.func (.yield (w.heap.size + 1)) #[] #[]] }, w1, g, us ++ #[.func (.yield (w.heap.size + 1)) #[] #[]] ++ vs, w1, ?_, ?_, fun _ _ => trivial, ?_, fen_depth _ _, ?_⟩
              · rw [← hw1]; exact run_enterLoop_outer _ _ _ _ _
              · simp only [resolve, hfu, Deferred.ofValue]
                simp [Act.eval]
              · simp only [invoke]
                exact hcf _ _
              · have hvs : ∀ i, i < (first ++ [LV.yld S.length] ++ caps).length → V w1 (XX F (mput m S.length (w.heap.size + 1, 0, 0)) (S ++ [.lp .ready nt e ps.toList x1 x2])) (mput m S.length (w.heap.size + 1, 0, 0)) ((first ++ [LV.yld S.length] ++ caps).getD i .undef) ((us ++ #[Value.func (.yield (w.heap.size + 1)) #[] #[]] ++ vs).getD i Go.undef) := by
                  intro i hi
                  rw [arr_getD']
                  simp only [Array.toList_append]
                  have g1 : us.toList.length = first.length := by simpa using hl
                  simp only [List.length_append, List.length_cons, List.length_nil] at hi
                  by_cases c1 : i < first.length
                  · rw [List.append_assoc, List.append_assoc, getD_app_left _ _ _ _ c1, getD_app_left _ _ _ _ (by omega), ← arr_getD']
                    exact (hv1 i c1).ev hev1
                  · rw [List.append_assoc, List.append_assoc, getD_app_right first _ i _ (by omega), getD_app_right us.toList _ i _ (by omega), g1]
                    by_cases c2 : i - first.length = 0
                    · rw [c2]; exact .yld (mput_new _ _ _)
                    · rw [getD_app_right [LV.yld S.length] caps (i - first.length) .undef (by show 1 ≤ i - first.length; omega), getD_app_right #[Value.func (.yield (w.heap.size + 1)) #[] #[]].toList vs.toList (i - first.length) Go.undef (by show 1 ≤ i - first.length; omega), ← arr_getD']
                      exact (hv2 (i - first.length - 1) (by omega)).ev hev1
                refine CallsIn.mono (calls_fen (hcalls F _ w1 _ hev1.rel (by simp [hl, hl']; omega) hvs)) ?_
                rintro en w2 ⟨u, m2, rfl, hvu, hev2⟩
                -- behind the function that was ranged over
                have hm2 : m2 S.length = some (w.heap.size + 1, 0, 0) := hev2.mm _ _ (mput_new _ _ _)
                obtain ⟨o2, ho2, hr2⟩ := hev2.rel.obj _ _ _ _ hm2
                have hev := hev1.trans hev2
                have fin : ∀ st nt2 e2 p2 a2 b2 y, S2[S.length]? = some (Obj.lp st nt2 e2 p2 a2 b2) → ∀ (rc : Loop), w2.heap[w.heap.size + 1]? = some (.loop rc) → rc.tmps.size = nt2 → rc.params.toList = p2 → KC a2 b2 rc.assign rc.body →
                    (∀ t, V w2 (XX F m2 S2) m2 (e2 t) (rc.tmps.getD t Go.undef)) → S' = S2.set S.length .dead →
                    CPost F m S w nt a y e S' (exOf y) { a with defers := [markOf w.heap.size] ++ a.defers } (w2.putObj (w.heap.size + 1) (.loop { rc with state := .exhausted })) := by
                  intro st nt2 e2 p2 a2 b2 y hS2 rc hrc hq1 hq2 hq3 hq4 hS'
                  have hlt := heap_lt hrc
                  have hset := Ev.set hev2.rel hm2 ⟨_, hS2, trivial⟩ (.lp .over nt2 e2 p2 a2 b2) trivial (w' := w2.putObj (w.heap.size + 1) (.loop { rc with state := .exhausted })) rfl rfl rfl (by simp [World.putObj])
                    (fun q hq => World.putObj_heap_other (by omega)) fun hv => ⟨{ rc with state := .exhausted }, World.putObj_heap_same hlt, trivial, hq2, hq3, hq1, fun t => hv (hq4 t)⟩
                  have hkill := Ev.kill hset.rel S.length
                  have hss : (S2.set S.length (.lp .over nt2 e2 p2 a2 b2)).set S.length .dead = S' := by rw [hS', List.set_set]
                  rw [hss] at hkill
                  have hall := (hev.trans hset).trans hkill
                  refine ⟨rfl, m2, hall, ⟨hE.size, fun t => (hE.val t).ev hall⟩, [w.heap.size], rfl, by simp, fun D hD' => ?_⟩
                  obtain rfl : D = w.heap.size := by simpa using hD'
                  exact ⟨Nat.le_refl _, ((hev2.trans hset).trans hkill).dfr _ hD⟩
                simp only [rangePost]
                split at ha
                · rename_i nt2 e2 p2 a2 b2 hS2
                  rw [hS2] at ho2
                  obtain rfl := Option.some.inj ho2
                  obtain ⟨rc, hrc, ⟨hst, hpe⟩, hq2, hq3, hq1, hq4⟩ := hr2
                  cases ha
                  exact ⟨none, w2.putObj (w.heap.size + 1) (.loop { rc with state := .exhausted }), (run_endLoop (P := P) hrc (by rw [hst]; simp)).trans (by rw [hpe]), fin _ _ _ _ _ _ .nrm hS2 rc hrc hq1 hq2 hq3 hq4 rfl⟩
                · rename_i y nt2 e2 p2 a2 b2 hS2
                  rw [hS2] at ho2
                  obtain rfl := Option.some.inj ho2
                  obtain ⟨rc, hrc, ⟨hst, hy, hpe⟩, hq2, hq3, hq1, hq4⟩ := hr2
                  cases ha
                  have hpost := fin _ _ _ _ _ _ x hS2 rc hrc hq1 hq2 hq3 hq4 rfl
                  refine ⟨some (codeEx x), w2.putObj (w.heap.size + 1) (.loop { rc with state := .exhausted }), (run_endLoop (P := P) hrc (by rw [hst]; simp)).trans (by rw [hpe]), ?_⟩
                  cases x with
                  | nrm => exact (hy rfl).elim
                  | exit id => exact wpIn_exit hpost
                  | ret => exact wpIn_ret hpost
                · cases ha
        · cases ha
      · cases hc
    · cases hc
  | exit id =>
    intro ac hc hn m S w e nt a x e' S' h hE ha
    cases hc
    cases ha
    exact wpIn_exit ⟨rfl, m, .refl h, hE, .same rfl⟩
  | scope c ih =>
    intro ac hc hn m S w e nt a x e' S' h hE ha
    simp only [cCode, Option.map_eq_some_iff] at hc
    obtain ⟨x1, h1, rfl⟩ := hc
    simp only [acode] at ha
    refine wpIn_scope ?_
    refine wpIn_mono (ih h1 (hn.imp (fun z => z) fun hh => by simpa [noRng] using hh) h hE ha) ?_
    rintro ex a1 w1 ⟨rfl, hh⟩
    exact ⟨fun l => by cases x <;> simp [exOf], rfl, hh⟩
  | goto l => intro ac hc; cases hc
  | ret =>
    intro ac hc hn m S w e nt a x e' S' h hE ha
    cases hc
    cases ha
    exact wpIn_ret ⟨rfl, m, .refl h, hE, .same rfl⟩
  | refuse why => intro ac hc; cases hc

end
end Go.Am
