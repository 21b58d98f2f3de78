/- From what the plain machine says of a law to the law's row: calls that leave all that was there as it was. -/
import Derived.Test.YtfekfnapgfddbaaGreatAm18
import Derived.ChangeSame
set_option linter.unusedVariables false
set_option linter.unusedSimpArgs false
set_option linter.unusedSectionVars false
namespace Go.Am
open Go Go.RowKit Go.ChangeShapes
variable [HasProg]

/-- All that was there is as it was. -/
def Left0 (w w' : World) : Prop := World.keptBut w w' (fun _ => False) ∧ ∀ a : Addr, a.block < w.heap.size → w'.frozen? a = w.frozen? a

theorem Ev.left0 {F : Nat → Prop} {m' : MM} {S' : Store} {w w' : World} (h : Ev F M0 [] w m' S' w') : Left0 w w' := by
  have hOwn0 : ∀ q, ¬ Own M0 ([] : Store) q := fun q ⟨r, z, c, hm, _⟩ => by cases hm
  have hk : ∀ i, i < w.heap.size → w'.heap[i]? = w.heap[i]? := fun i hi => h.keep i hi (hOwn0 i)
  refine ⟨⟨h.os, h.output, fun i hi => ?_⟩, fun a ha => ?_⟩
  · rw [hk i hi]
    split
    · rename_i c t fr c' t' fr' h1 h2
      rw [h1] at h2
      cases h2
      exact ⟨rfl, rfl, rfl, fun _ _ => rfl⟩
    · rename_i es ck es' ck' h1 h2
      rw [h1] at h2
      cases h2
      exact .inr ⟨rfl, rfl⟩
    · rfl
  · unfold World.frozen?
    rw [hk a.block ha]

theorem Rel.nothing (w : World) : Rel w (fun _ => False) M0 [] :=
  ⟨(fun r b z cap hm => by cases hm), (fun r r' b z cap z' cap' _ hm => by cases hm), (fun r b z cap hm => by cases hm), fun b hb => hb.elim⟩

/-- A law's call. -/
theorem law_calls {P : Program} {W : Call} (hW : SoundW P W) {f : Nat} (hf : (f == yB) = false) {args : List LV} {S' : Store} (h : W f args [] = some (.bool true, S')) (w : World) (vs : Array Value)
    (hl : vs.size = args.length) (hv : ∀ i, i < args.length → V w (fun _ => False) M0 (args.getD i .undef) (vs.getD i Go.undef)) :
    Calls P f vs w fun e w' => e = .returned (.bool true) ∧ Left0 w w' := by
  have hs := hW.1 f args [] _ S' (by simpa using hf) h
  refine (hs.2 (fun _ => False) M0 w vs (Rel.nothing w) hl fun i hi => ?_).mono ?_
  · refine (hv i hi).on (Nat.le_refl _) (fun _ _ _ => rfl) (fun q _ hq => ?_) fun _ _ h => h
    rcases hq with hq | ⟨r, z, c, hm, _⟩
    · exact hq
    · cases hm
  · rintro e w' ⟨u, m', rfl, hu, hev⟩
    exact ⟨by rw [hu.bool_inv], hev.left0⟩

section
variable {H : Type} {enc : TypeId × Value → H} {P : Program}
/-- 'post_of_same', of frozen cells that were there. -/
theorem post_same {f : Func} {s : ChangeSpec} {apart fresh handsOn again : Bool} {W W' : World} {args : Array Value} {v : Value} {ds gs : List (DataW H)} {before pa pv : List MemPlace}
    (hW : DataW.Whole enc P f.params.toList s.vars apart W args.toList ds gs before)
    (hres : ∀ (b : Nat) (sp : Nat → Bool) (hd : Bool), DataW.TrodAll enc P W' b sp hd f.resultTypes.toList (v.resultList f.resultTypes.size) (s.fn H (ds ++ gs)).results [])
    (hargs : ∀ sp : Nat → Bool, (∀ p ∈ before, sp p.block = true) → DataW.TrodAll enc P W' 0 sp true f.params.toList args.toList (s.fn H (ds ++ gs)).args pa)
    (hvars : ∀ sp : Nat → Bool, (∀ p ∈ before, sp p.block = true) → DataW.TrodVars enc P W' sp s.vars (s.fn H (ds ++ gs)).vars pv)
    (hps : before = pa ++ pv) (hleft : Left0 W W')
    (hok : ∀ (j : Nat) (t : TypeId) (r : Value), f.resultTypes[j]? = some t → (v.resultList f.resultTypes.size)[j]? = some r → Value.okWide P W' .any 0 t r) :
    s.post enc P f apart fresh handsOn again W args v W' := by
  have hold : ∀ p ∈ before, (fun b => decide (b < W.heap.size)) p.block = true := fun p hp => by simpa using hW.lt p hp
  have hlt := fun p hp => hW.lt p hp
  have hk : W.keptBut W' (· ∈ before) := World.keptBut_mono (fun _ f => f.elim) hleft.1
  refine ⟨ds, gs, before, [], pa, pv, hW, hres _ _ _, hargs _ hold, hvars _ hold, World.keptBut_mono (fun p hp => ⟨hp, ?_⟩) hk, fun _ => ?_⟩
  · rw [hps, List.mem_append] at hp
    exact Or.inr hp
  · obtain ⟨_, _, _, _, _, hz, hn⟩ := hW
    refine ⟨hok, _, _, ([] ++ pa) ++ pv, ⟨[] ++ pa, pv, trodAll_append (hargs _ (fun _ _ => rfl)) (hres _ _ _), hvars _ (fun _ _ => rfl), rfl, ?_, ?_⟩, ?_⟩
    · intro b off hp
      have hb : MemPlace.cell b off ∈ before := by rw [hps]; simpa using hp
      rw [hleft.2 ⟨b, off, none⟩ (hlt _ hb)]
      exact hz b off hb
    · intro ha
      have := hn ha
      rw [hps] at this
      simpa using this
    · intro p hp _
      rw [hps]
      simpa using hp
end
end Go.Am
