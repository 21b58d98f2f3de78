/- What an operation of the plain machine looks at, and what it leaves. -/
import Derived.Test.YtfekfnapgfddbaaGreatAm2
set_option linter.unusedVariables false
set_option linter.unusedSimpArgs false
namespace Go.Am
open Go

theorem ev_congr {e e' : Env} {x : Opd} (h : ∀ t, t ∈ slO x → e t = e' t) : x.ev e = x.ev e' := by
  cases x with
  | t n => exact h n (by simp [slO])
  | c v => rfl

theorem evP_congr {e e' : Env} {x : Option Opd} (h : ∀ t, t ∈ slP x → e t = e' t) : x.map (·.ev e) = x.map (·.ev e') := by
  cases x with
  | none => rfl
  | some x => exact congrArg some (ev_congr h)

theorem evL_congr {e e' : Env} {l : List Opd} (h : ∀ t, t ∈ slL l → e t = e' t) : l.map (·.ev e) = l.map (·.ev e') :=
  List.map_congr_left fun x hx => ev_congr fun t ht => h t (List.mem_flatMap.2 ⟨x, hx, ht⟩)

theorem rsv_congr {e e' : Env} {r : Nat} (op : AOp) (h : ∀ t, t ∈ opSlots op → e t = e' t) : rsv r e op = rsv r e' op := by
  cases op <;> simp only [rsv, opSlots] at h ⊢
  · rw [evL_congr h]
  · rw [ev_congr h]

theorem aop_congr {C : Cfg} {W : Call} {q : Bool} {e e' : Env} {S : Store} (op : AOp) (h : ∀ t, t ∈ opSlots op → e t = e' t) : aop C W q e S op = aop C W q e' S op := by
  cases op <;> simp only [opSlots, List.mem_append, or_imp, forall_and] at h <;> simp only [aop]
  case mov x => rw [ev_congr h]
  case pick c a b => rw [ev_congr h.1.1, ev_congr h.1.2, ev_congr h.2]
  case box x => rw [ev_congr h]
  case build z parts =>
    have : parts.map (fun (x : Nat × Nat × Opd) => (x.1, x.2.1, x.2.2.ev e)) = parts.map (fun (x : Nat × Nat × Opd) => (x.1, x.2.1, x.2.2.ev e')) :=
      List.map_congr_left fun p hp => by rw [ev_congr fun t ht => h t (List.mem_flatMap.2 ⟨p.2.2, List.mem_map.2 ⟨p, hp, rfl⟩, ht⟩)]
    simp only [this]
  case bsl E z parts => rw [evL_congr h]
  case load a n x => rw [ev_congr h]
  case store n x v => rw [ev_congr h.1, ev_congr h.2]
  case nck x => rw [ev_congr h]
  case bin op x y => rw [ev_congr h.1, ev_congr h.2]
  case eqb n x y => rw [ev_congr h.1, ev_congr h.2]
  case eqn n x => rw [ev_congr h]
  case eqs n x => rw [ev_congr h]
  case un op x => rw [ev_congr h]
  case conv k x => rw [ev_congr h]
  case b2s x => rw [ev_congr h]
  case mkf f a b => rw [evL_congr h.1, evL_congr h.2]
  case mks E z b zero l => rw [ev_congr h]
  case slc z x lo hi mx => rw [ev_congr h.1.1.1, evP_congr h.1.1.2, evP_congr h.1.2, evP_congr h.2]
  case fad o x => rw [ev_congr h]
  case fld a n o x => rw [ev_congr h]
  case mup x k v => rw [ev_congr h.1.1, ev_congr h.1.2, ev_congr h.2]
  case mlk x k ok => rw [ev_congr h.1, ev_congr h.2]
  case idx z x i => rw [ev_congr h.1, ev_congr h.2]
  case idxa n z x i => rw [ev_congr h.1, ev_congr h.2]
  case sidx x i => rw [ev_congr h.1, ev_congr h.2]
  case ext x i => rw [ev_congr h]
  case len x => rw [ev_congr h]
  case slen x => rw [ev_congr h]
  case app E z b x y => rw [ev_congr h.1, ev_congr h.2]
  case mx x ys => rw [ev_congr h.1, evL_congr h.2]
  case mn x ys => rw [ev_congr h.1, evL_congr h.2]
  case cpy E z x y => rw [ev_congr h.1, ev_congr h.2]
  case clr E z x => rw [ev_congr h]
  case call f args => rw [ev_congr h.1, evL_congr h.2]
  case «at» r op => rw [rsv_congr op h]

/-- An operation that does not look into the store. -/
theorem aop_pure {C : Cfg} {W : Call} {q : Bool} {e : Env} {S S' : Store} {v : LV} {op : AOp} (hd : dep op = false) (ha : isAt op = false) (h : aop C W q e S op = some (v, S')) :
    S' = S ∧ ∀ S2, aop C W q e S2 op = some (v, S2) := by
  cases op <;> simp only [dep, isAt, Bool.true_eq_false, Bool.false_eq_true] at hd ha <;> simp only [aop, Option.map_eq_some_iff] at h ⊢ <;>
    first
    | (repeat' split at h) <;> first | (cases h; done) | (cases h; simp_all; done) | (simp only [Option.map_eq_some_iff] at h; obtain ⟨u, hu, he⟩ := h; cases he; simp_all; done) | (obtain ⟨u, hu, he⟩ := h; cases he; simp_all [lenOf]; done) | skip
    | skip

theorem closeLeaf_agree {S S2 : Store} {v : LV} (h : ∀ r, r ∈ rowsLeaf v → S[r]? = S2[r]?) : closeLeaf S v = closeLeaf S2 v := by
  cases v <;> simp only [closeLeaf]
  case row r z off len => rw [h r (by simp [rowsLeaf])]
  case fn f a b => cases a <;> cases b <;> rfl

theorem mapO_congr {α β : Type} {f g : α → Option β} : ∀ {l : List α}, (∀ x, x ∈ l → f x = g x) → mapO f l = mapO g l
  | [], h => rfl
  | x :: l, h => by simp only [mapO, h x (by simp), mapO_congr fun y hy => h y (List.mem_cons_of_mem _ hy)]

theorem close_leaf_of {S : Store} {v : LV} (h : ∀ fs, v ≠ .agg fs) : close S v = closeLeaf S v := by cases v <;> first | rfl | exact (h _ rfl).elim
theorem leaves_of {v : LV} (h : ∀ fs, v ≠ .agg fs) : v.leaves = [v] := by cases v <;> first | rfl | exact (h _ rfl).elim

theorem close_agree {S S2 : Store} {v : LV} (h : ∀ r, r ∈ rowsOf v → S[r]? = S2[r]?) : close S v = close S2 v := by
  by_cases ha : ∃ fs, v = .agg fs
  · obtain ⟨fs, rfl⟩ := ha
    simp only [close]
    rw [mapO_congr fun x hx => closeLeaf_agree fun r hr => h r (List.mem_flatMap.2 ⟨x, by simpa [LV.leaves] using hx, hr⟩)]
  · have ha' : ∀ fs, v ≠ .agg fs := fun fs e => ha ⟨fs, e⟩
    rw [close_leaf_of ha', close_leaf_of ha']
    exact closeLeaf_agree fun r hr => h r (by rw [rowsOf, leaves_of ha']; simpa using hr)

theorem elems_agree {S S2 : Store} {v : LV} (h : ∀ r, r ∈ rowsOf v → S[r]? = S2[r]?) : elems S v = elems S2 v := by
  cases v <;> simp only [elems]
  case row r z off len => rw [h r (by simp [rowsOf, LV.leaves, rowsLeaf])]

theorem closeLeaf_nil {v d : LV} (h : closeLeaf [] v = some d) : d = v ∧ rowsLeaf v = [] := by
  cases v <;> simp only [closeLeaf, List.getElem?_nil] at h
  case fn f a b =>
    cases a <;> cases b <;> simp only [closeLeaf] at h <;> cases h
    exact ⟨rfl, rfl⟩
  all_goals first | (cases h; done) | (cases h; exact ⟨rfl, rfl⟩)

theorem mapO_same {α : Type} {f : α → Option α} : ∀ {l m : List α}, (∀ x y, x ∈ l → f x = some y → y = x) → mapO f l = some m → m = l
  | [], m, h, e => by cases e; rfl
  | x :: l, m, h, e => by
    simp only [mapO] at e
    split at e
    · cases e
    · rename_i y hy
      split at e
      · cases e
      · rename_i ys hys
        cases e
        rw [h x y (by simp) hy, mapO_same (fun a b ha hb => h a b (List.mem_cons_of_mem _ ha) hb) hys]

theorem mapO_some {α β : Type} {f : α → Option β} : ∀ {l : List α} {m : List β}, mapO f l = some m → ∀ x, x ∈ l → ∃ y, f x = some y
  | [], m, e, x, hx => by simp at hx
  | a :: l, m, e, x, hx => by
    simp only [mapO] at e
    split at e
    · cases e
    · rename_i y hy
      split at e
      · cases e
      · rename_i ys hys
        rcases List.mem_cons.1 hx with rfl | hx
        · exact ⟨y, hy⟩
        · exact mapO_some hys x hx

/-- What has neither rows nor numbers. -/
theorem close_nil {v d : LV} (h : close [] v = some d) : d = v ∧ rowsOf v = [] ∧ ∀ x, x ∈ v.leaves → closeLeaf [] x = some x := by
  by_cases ha : ∃ fs, v = .agg fs
  · obtain ⟨fs, rfl⟩ := ha
    simp only [close] at h
    split at h
    · cases h
    · rename_i gs hgs
      cases h
      have h1 := mapO_same (fun x y _ hxy => (closeLeaf_nil hxy).1) hgs
      subst h1
      refine ⟨rfl, ?_, fun x hx => ?_⟩
      · rw [rowsOf, List.flatMap_eq_nil_iff]
        intro x hx
        obtain ⟨y, hy⟩ := mapO_some hgs x (by simpa [LV.leaves] using hx)
        exact (closeLeaf_nil hy).2
      · obtain ⟨y, hy⟩ := mapO_some hgs x (by simpa [LV.leaves] using hx)
        rw [hy, (closeLeaf_nil hy).1]
  · have ha' : ∀ fs, v ≠ .agg fs := fun fs e => ha ⟨fs, e⟩
    rw [close_leaf_of ha'] at h
    obtain ⟨h1, h2⟩ := closeLeaf_nil h
    refine ⟨h1, by rw [rowsOf, leaves_of ha']; simpa using h2, fun x hx => ?_⟩
    rw [leaves_of ha'] at hx
    obtain rfl : x = v := by simpa using hx
    rw [h, h1]

theorem mapO_close_nil {l ds : List LV} (h : mapO (close []) l = some ds) : l.flatMap rowsOf = [] ∧ ∀ S : Store, mapO (close S) l = some ds := by
  have hr : ∀ x, x ∈ l → rowsOf x = [] := fun x hx => by obtain ⟨y, hy⟩ := mapO_some h x hx; exact (close_nil hy).2.1
  refine ⟨List.flatMap_eq_nil_iff.2 hr, fun S => ?_⟩
  rw [← h]
  exact mapO_congr fun x hx => close_agree fun r hr' => by rw [hr x hx] at hr'; simp at hr'

theorem closeLeaf_row {S : Store} {v d : LV} {r : Nat} (h : closeLeaf S v = some d) (hr : r ∈ rowsLeaf v) : S[r]? ≠ some .dead := by
  cases v <;> simp only [rowsLeaf, List.mem_singleton, List.not_mem_nil] at hr
  subst hr
  simp only [closeLeaf] at h
  split at h
  · rename_i hS; rw [hS]; simp
  · cases h

theorem close_row {S : Store} {v d : LV} {r : Nat} (h : close S v = some d) (hr : r ∈ rowsOf v) : S[r]? ≠ some .dead := by
  by_cases ha : ∃ fs, v = .agg fs
  · obtain ⟨fs, rfl⟩ := ha
    simp only [close] at h
    split at h
    · cases h
    · rename_i gs hgs
      obtain ⟨x, hx, hxr⟩ := List.mem_flatMap.1 hr
      obtain ⟨y, hy⟩ := mapO_some hgs x (by simpa [LV.leaves] using hx)
      exact closeLeaf_row hy hxr
  · have ha' : ∀ fs, v ≠ .agg fs := fun fs e => ha ⟨fs, e⟩
    rw [close_leaf_of ha'] at h
    rw [rowsOf, leaves_of ha'] at hr
    exact closeLeaf_row h (by simpa using hr)

theorem acallM_grow {C : Cfg} {W : Call} {f : Nat} {args : List LV} {S S' : Store} {v : LV} (h : acallM C W true f args S = some (v, S')) : ∃ G, S' = S ++ G := by
  unfold acallM at h
  split at h
  · cases h
  split at h
  · rw [if_pos rfl] at h
    split at h
    · split at h
      · cases h
      · split at h
        · rename_i hg; cases h; exact hg
        · cases h
    · cases h
  · split at h
    · cases h
    · split at h
      · cases h
      · split at h
        · split at h
          · cases h
          · cases h; exact ⟨_, rfl⟩
        · split at h
          · cases h
          · split at h
            · cases h; exact ⟨[], by simp⟩
            · simp at h

theorem acallM_calm {C : Cfg} (hwk : C.weak = false) {W : Call} {f : Nat} {args : List LV} {S S' : Store} {v : LV} (h : acallM C W true f args S = some (v, S')) :
    (∀ a r, a ∈ args → r ∈ rowsOf a → S[r]? ≠ some .dead) ∧ ∃ G, S' = S ++ G ∧ ∀ S2 : Store, S2.length = S.length → (∀ a r, a ∈ args → r ∈ rowsOf a → S2[r]? = S[r]?) → acallM C W true f args S2 = some (v, S2 ++ G) := by
  unfold acallM at h
  split at h
  · cases h
  rename_i hy
  split at h
  · simp [hwk] at h
  · rename_i hb
    split at h
    · cases h
    · rename_i ds hds
      refine ⟨fun a r ha hr => (by obtain ⟨y, hy⟩ := mapO_some hds a ha; exact close_row hy hr), ?_⟩
      have hm : ∀ S2 : Store, (∀ a r, a ∈ args → r ∈ rowsOf a → S2[r]? = S[r]?) → mapO (close S2) args = some ds := fun S2 h2 => by
        rw [← hds]; exact mapO_congr fun x hx => close_agree fun r hr => h2 x r hx hr
      split at h
      · cases h
      · rename_i r1 S1 hW
        split at h
        · rename_i how
          split at h
          · cases h
          · rename_i r' G hG
            cases h
            refine ⟨G, rfl, fun S2 hl h2 => ?_⟩
            unfold acallM
            rw [if_neg hy, if_neg hb, hm S2 h2]
            simp only [hW, if_pos how, hl, hG]
        · rename_i how
          split at h
          · cases h
          · rename_i r' hr'
            split at h
            · rename_i hh
              cases h
              refine ⟨[], by simp, fun S2 hl h2 => ?_⟩
              unfold acallM
              rw [if_neg hy, if_neg hb, hm S2 h2]
              simp only [hW, if_neg how, hr', if_pos hh, List.append_nil]
            · simp at h

/-- What does not turn what is there, but may add to it. -/
theorem aop_grow {C : Cfg} {W : Call} {q : Bool} {e : Env} {S S' : Store} {v : LV} {op : AOp} (hm : mods q op = false) (ha : isAt op = false) (h : aop C W q e S op = some (v, S')) : ∃ G, S' = S ++ G := by
  cases hd : dep op with
  | false => exact ⟨[], by simp [(aop_pure hd ha h).1]⟩
  | true =>
    cases op <;> simp only [dep, Bool.false_eq_true] at hd <;> simp only [mods, Bool.true_eq_false, Bool.not_eq_false'] at hm <;> simp only [aop] at h
    case box x => split at h <;> cases h; exact ⟨_, rfl⟩
    case alc x => split at h <;> cases h; exact ⟨_, rfl⟩
    case bsl E z parts =>
      subst hm
      simp only [closeAll] at h
      split at h
      · cases h
      · rename_i ds S1 hds
        split at hds
        · cases hds
        · cases hds
          split at h
          · rename_i hh
            cases h
            simp only [Bool.true_and, Bool.not_not, Bool.and_eq_true, List.isEmpty_iff] at hh
            rw [hh.2]
            exact ⟨_, rfl⟩
          · cases h
    case load a n x =>
      repeat' split at h
      all_goals first
        | (cases h; done)
        | (simp only [Option.map_eq_some_iff] at h; obtain ⟨u, hu, he⟩ := h; cases he; exact ⟨[], by simp⟩)
    case b2s x =>
      repeat' split at h
      all_goals first
        | (cases h; done)
        | (simp only [Option.map_eq_some_iff] at h; obtain ⟨u, hu, he⟩ := h; cases he; exact ⟨[], by simp⟩)
    case mks E z b zero l =>
      repeat' split at h
      all_goals first
        | (cases h; done)
        | (cases h; exact ⟨_, rfl⟩)
    case mkm => cases h; exact ⟨_, rfl⟩
    case mlk x k ok =>
      split at h
      · split at h
        · cases h; exact ⟨[], by simp⟩
        · cases h
      · cases h
    case call f args =>
      subst hm
      split at h
      · exact acallM_grow h
      · simp at h
      · cases h

/-- What is dead stays so. -/
theorem aop_dead {C : Cfg} {W : Call} {e : Env} {S S' : Store} {v : LV} {op : AOp} {r : Nat} (ha : isAt op = false) (h : aop C W true e S op = some (v, S')) (hr : S[r]? = some .dead) : S'[r]? = some .dead := by
  have hlt := (List.getElem?_eq_some_iff.1 hr).1
  cases hm : mods true op with
  | false =>
    obtain ⟨G, rfl⟩ := aop_grow hm ha h
    rw [List.getElem?_append_left hlt]; exact hr
  | true =>
    have key : ∀ (r' : Nat) (x o : Obj), S[r']? = some o → o ≠ .dead → (S.set r' x)[r]? = some .dead := fun r' x o ho hnd => by
      have : r' ≠ r := fun e1 => by subst e1; rw [hr] at ho; exact hnd (Option.some.inj ho).symm
      rw [List.getElem?_set_ne this]; exact hr
    cases op <;> simp only [mods, Bool.not_true, Bool.false_eq_true] at hm <;> simp only [aop] at h
    case store n x y =>
      split at h
      · split at h
        · rename_i hS
          split at h
          · simp only [Option.map_eq_some_iff] at h; obtain ⟨u, hu, he⟩ := h; cases he
            exact key _ _ _ hS (by simp)
          · cases h
        · rename_i hS
          split at h
          · split at h
            · simp only [Option.map_eq_some_iff] at h; obtain ⟨u, hu, he⟩ := h; cases he
              exact key _ _ _ hS (by simp)
            · cases h
          · cases h
        · cases h
      · cases h
    case app E z b x y =>
      split at h
      · cases h
      · split at h
        · unfold aapp at h
          repeat' split at h
          all_goals first
            | (cases h; done)
            | (cases h; exact hr)
            | (cases h; rw [List.getElem?_append_left hlt]; exact hr)
            | (cases h; rename_i hS _; rw [List.getElem?_append_left (by simpa using hlt)]; exact key _ _ _ hS (by simp))
        · cases h
    case cpy E z x y =>
      repeat' split at h
      all_goals first
        | (cases h; done)
        | (cases h; exact hr)
        | (cases h; rename_i hS _; exact key _ _ _ hS (by simp))
    case clr E z x =>
      repeat' split at h
      all_goals first
        | (cases h; done)
        | (cases h; exact hr)
        | (cases h; rename_i hS _; exact key _ _ _ hS (by simp))
    case mup x k v =>
      split at h
      · split at h
        · rename_i hS; cases h; exact key _ _ _ hS (by simp)
        · cases h
      · cases h

/-- What a load reads. -/
theorem load_local {C : Cfg} {W : Call} {q : Bool} {e : Env} {S S' : Store} {v : LV} {a : Bool} {n : Nat} {x : Opd} (h : aop C W q e S (.load a n x) = some (v, S')) :
    S' = S ∧ (∀ r j k, x.ev e = .ref r j k → ∃ o, S[r]? = some o ∧ o ≠ .dead) ∧ ∀ S2 : Store, (∀ r j k, x.ev e = .ref r j k → S2[r]? = S[r]?) → aop C W q e S2 (.load a n x) = some (v, S2) := by
  simp only [aop] at h ⊢
  split at h
  · rename_i r j k hx
    split at h
    · rename_i u hS
      split at h
      · rename_i hj
        simp only [Option.map_eq_some_iff] at h; obtain ⟨u', hu, he⟩ := h; cases he
        refine ⟨rfl, fun r' j' k' h' => (by rw [hx] at h'; cases h'; exact ⟨_, hS, by simp⟩), fun S2 h2 => ?_⟩
        simp only [hx, h2 r j k hx, hS, if_pos hj, hu, Option.map_some]
      · cases h
    · rename_i hS
      split at h
      · rename_i u hu0
        simp only [Option.map_eq_some_iff] at h; obtain ⟨u', hu, he⟩ := h; cases he
        refine ⟨rfl, fun r' j' k' h' => (by rw [hx] at h'; cases h'; exact ⟨_, hS, by simp⟩), fun S2 h2 => ?_⟩
        simp only [hx, h2 r j k hx, hS, hu0, hu, Option.map_some]
      · cases h
    · cases h
  · rename_i y k hx
    simp only [Option.map_eq_some_iff] at h; obtain ⟨u', hu, he⟩ := h; cases he
    refine ⟨rfl, fun r' j' k' h' => (by rw [hx] at h'; cases h'), fun S2 h2 => ?_⟩
    simp only [hx, hu, Option.map_some]
  · cases h

/-- What a store writes. -/
theorem store_local {C : Cfg} {W : Call} {q : Bool} {e : Env} {S S' : Store} {v : LV} {n : Nat} {x y : Opd} (h : aop C W q e S (.store n x y) = some (v, S')) :
    S'.length = S.length ∧ ∃ r j k, x.ev e = .ref r j k ∧ ∀ r', r' ≠ r → S'[r']? = S[r']? := by
  simp only [aop] at h
  split at h
  · rename_i r j k hx
    split at h
    · split at h
      · simp only [Option.map_eq_some_iff] at h; obtain ⟨u', hu, he⟩ := h; cases he
        exact ⟨by simp, r, j, k, hx, fun r' hr' => List.getElem?_set_ne (Ne.symm hr')⟩
      · cases h
    · split at h
      · split at h
        · simp only [Option.map_eq_some_iff] at h; obtain ⟨u', hu, he⟩ := h; cases he
          exact ⟨by simp, r, j, k, hx, fun r' hr' => List.getElem?_set_ne (Ne.symm hr')⟩
        · cases h
      · cases h
    · cases h
  · cases h

end Go.Am
