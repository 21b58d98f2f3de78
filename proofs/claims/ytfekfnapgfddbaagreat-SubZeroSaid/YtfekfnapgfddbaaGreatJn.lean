/- From what the plain machine says of a law to the law's row: calls that leave all that was there as it was; arguments that are read. -/
import Derived.Test.YtfekfnapgfddbaaGreatAm18
import Derived.ChangeSame
import Derived.ChangeSlices
import Derived.Carry
import Derived.ProofKit
import Derived.OpenShut
set_option linter.unusedVariables false
set_option linter.unusedSimpArgs false
set_option linter.unusedSectionVars false
namespace Go.Am
open Go Go.RowKit Go.ChangeShapes Go.WideShapes
variable [HasProg]

theorem Ev.below {F : Nat → Prop} {m' : MM} {S' : Store} {w w' : World} (h : Ev F M0 [] w m' S' w') : Below w.heap.size w w' :=
  ⟨h.os, h.tape, h.output, h.size, fun i hi => h.keep i hi fun ⟨r, z, c, hm, _⟩ => by cases hm⟩

theorem below_kept {w w' : World} (h : Below w.heap.size w w') (may : MemPlace → Prop) : World.keptBut w w' may := by
  refine ⟨h.os, h.output, fun i hi => ?_⟩
  rw [h.block i hi]
  split
  · rename_i c t fr c' t' fr' h1 h2
    rw [h1] at h2
    cases h2
    exact ⟨rfl, rfl, rfl, fun _ _ => rfl⟩
  · rename_i es ck es' ck' h1 h2
    rw [h1] at h2
    cases h2
    exact .inr ⟨rfl, rfl⟩
  · rfl
theorem below_frozen {w w' : World} (h : Below w.heap.size w w') (a : Addr) (ha : a.block < w.heap.size) : w'.frozen? a = w.frozen? a := by
  unfold World.frozen?
  rw [h.block a.block ha]

theorem Rel.nothing (w : World) : Rel w (fun _ => False) M0 [] :=
  ⟨(fun r b z cap hm => by cases hm), (fun r r' b z cap z' cap' _ hm => by cases hm), (fun r b z cap hm => by cases hm), fun b hb => hb.elim⟩

/-- Values that are read are the machine's. -/
abbrev VR (w : World) (l : LV) (v : Value) : Prop := V w (fun _ => False) M0 l v
def VRs (w : World) : List LV → List Value → Prop
  | [], [] => True
  | l :: ls, v :: vs => VR w l v ∧ VRs w ls vs
  | _, _ => False
theorem VRs.get {w : World} : ∀ {ls : List LV} {vs : List Value}, VRs w ls vs → vs.length = ls.length ∧ ∀ i, i < ls.length → VR w (ls.getD i .undef) (vs.getD i Go.undef)
  | [], [], _ => ⟨rfl, fun i hi => by simp at hi⟩
  | l :: ls, v :: vs, h => by
    obtain ⟨h1, h2⟩ := h
    obtain ⟨h3, h4⟩ := VRs.get h2
    refine ⟨by simp [h3], fun i hi => ?_⟩
    cases i with
    | zero => exact h1
    | succ i => simpa using h4 i (by simpa using hi)
  | [], _ :: _, h => h.elim
  | _ :: _, [], h => h.elim

/-- A law's call. -/
theorem law_calls {P : Program} {W : Call} (hW : SoundW P W) {f : Nat} (hf : (f == yB) = false) {ls : List LV} {w : World} {vs : Array Value} (hv : VRs w ls vs.toList) (h : ∃ S', W f ls [] = some (.bool true, S')) :
    Calls P f vs w fun e w' => e = .returned (.bool true) ∧ Below w.heap.size w w' := by
  obtain ⟨S', h⟩ := h
  obtain ⟨h1, h2⟩ := hv.get
  have hs := hW.1 f ls [] _ S' (by simpa using hf) h
  refine (hs.2 (fun _ => False) M0 w vs (Rel.nothing w) (by simpa using h1) fun i hi => ?_).mono ?_
  · have := h2 i hi
    rw [← arr_getD'] at this
    refine this.on (Nat.le_refl _) (fun _ _ _ => rfl) (fun q _ hq => ?_) fun _ _ h => h
    rcases hq with hq | ⟨r, z, c, hm, _⟩
    · exact hq
    · cases hm
  · rintro e w' ⟨u, m', rfl, hu, hev⟩
    exact ⟨by rw [hu.bool_inv], hev.below⟩

section
variable {H : Type} {enc : TypeId × Value → H} {P : Program}

theorem trodAll_stays (hl : laidOutB P = true) {W W' : World} (hb : Below W.heap.size W W') {sp : Nat → Bool} : ∀ {ts : List TypeId} {vs : List Value} {ds : List (DataW H)} {p : List MemPlace},
    (∀ t ∈ ts, P.readableRec t = true ∧ t < P.types.size) → DataW.TrodAll enc P W 0 (fun _ => true) true ts vs ds p → (∀ x ∈ p, x.block < W.heap.size) → (∀ x ∈ p, sp x.block = true) → DataW.TrodAll enc P W' 0 sp true ts vs ds p
  | [], vs, ds, p, _, h, _, _ => by
    obtain ⟨rfl, rfl, rfl⟩ := trodAll_nil h
    exact trodAll_mk0
  | t :: ts, vs, ds, p, hr, h, hlt, hsp => by
    obtain ⟨v, vs1, d, ds1, a, b, rfl, rfl, rfl, h1, h2⟩ := trodAll_cons h
    obtain ⟨r1, r2⟩ := hr t (by simp)
    have k1 := WideElems.Trod_stays (W' := W') (sp' := sp) hl r1 r2 h1 (fun x hx => hb.same (hlt x (by simp [hx]))) (fun x hx => hsp x (by simp [hx]))
    have k2 := trodAll_stays hl hb (sp := sp) (fun t ht => hr t (by simp [ht])) h2 (fun x hx => hlt x (by simp [hx])) (fun x hx => hsp x (by simp [hx]))
    exact trodAll_cons_mk k1 k2

/-- What a law leaves. -/
theorem law_post {f : Func} {s : ChangeSpec} {apart fresh handsOn again : Bool} {W W' : World} {args : Array Value} {ds : List (DataW H)} {p : List MemPlace} {tb : TypeId}
    (hW : DataW.Whole enc P f.params.toList s.vars apart W args.toList ds [] p) (hb : Below W.heap.size W W') (hl : laidOutB P = true)
    (hr : ∀ t ∈ f.params.toList, P.readableRec t = true ∧ t < P.types.size) (hv : s.vars = []) (hs : s.fn H ds = { results := [.lit (.bool true)], args := ds })
    (ht : f.resultTypes = #[tb]) (htb : P.underlying tb = some .bool) :
    s.post enc P f apart fresh handsOn again W args (.bool true) W' := by
  have hlt : ∀ x ∈ p, x.block < W.heap.size := fun x hx => by simpa using hW.lt x hx
  have hsd : s.fn H (ds ++ []) = { results := [.lit (.bool true)], args := ds } := by rw [List.append_nil]; exact hs
  obtain ⟨pa, q, hA, hV, hpq, hfz, hnd⟩ := id hW
  have hq : q = [] := by
    rw [hv] at hV
    exact (trodVars_none hV).2
  subst hq
  have hpa : p = pa := by rw [hpq, List.append_nil]
  subst hpa
  have hargs : ∀ sp : Nat → Bool, (∀ x ∈ p, sp x.block = true) → DataW.TrodAll enc P W' 0 sp true f.params.toList args.toList ds p := fun sp hsp => trodAll_stays hl hb hr hA hlt hsp
  have hres : ∀ (b : Nat) (sp : Nat → Bool) (hd : Bool), DataW.TrodAll enc P W' b sp hd f.resultTypes.toList ((Value.bool true).resultList f.resultTypes.size) [.lit (.bool true)] [] := fun b sp hd => by
    rw [ht]
    exact trodAll_cons_mk (shut_bool htb _) trodAll_mk0
  have hvars : ∀ sp : Nat → Bool, DataW.TrodVars enc P W' sp s.vars (s.fn H (ds ++ [])).vars [] := fun sp => by rw [hv, hsd]; exact rfl
  have hold : ∀ x ∈ p, (fun b => decide (b < W.heap.size)) x.block = true := fun x hx => by simpa using hlt x hx
  refine ⟨ds, [], p, [], p, [], hW, by rw [hsd]; exact hres _ _ _, by rw [hsd]; exact hargs _ hold, hvars _, World.keptBut_mono (fun x hx => ⟨hx, .inr (by simpa using hx)⟩) (below_kept hb (· ∈ p)), fun _ => ?_⟩
  refine ⟨ok_one ht rfl (okWide_bool_mk htb _), _, _, ([] ++ p) ++ [], ⟨[] ++ p, [], trodAll_append (hargs _ (fun _ _ => rfl)) (hres _ _ _), hvars _, rfl, ?_, ?_⟩, ?_⟩
  · intro b off hp
    have hbm : MemPlace.cell b off ∈ p := by simpa using hp
    rw [below_frozen hb ⟨b, off, none⟩ (hlt _ hbm)]
    exact hfz b off (by simpa using hp)
  · intro ha
    have := hnd ha
    simpa using this
  · intro x hx _
    simpa using hx
end

/-! ### arguments -/
section
variable {H : Type} {enc : TypeId × Value → H} {P : Program} {w : World}

theorem VR_ints {t e : TypeId} {k : IntKind} {v : Value} {d : DataW H} {p : List MemPlace} (ht : P.underlying t = some (.slice e)) (he : P.underlying e = some (.int k)) (hc : P.cellsOf e = 1)
    {a : Option Addr} {n c : Nat} (hv : v = .slice a n c) (h : DataW.Trod enc P w 0 (fun _ => true) true t v d p) : ∃ (b : Bool) (l : List Int), VR w (.sl b (l.map fun n => LV.int k n)) v ∧ (b = true → l = []) ∧ ∀ n ∈ l, (Lit.int k n).wf = true := by
  subst hv
  obtain ⟨fuel, hf⟩ := h
  rcases open_ints ht he hc hf with ⟨hcs, hx⟩ | ⟨ad, len, cap, zs, hcs, _, hl, hm, hz, hx, hcell, hwz⟩
  · simp [Value.cells] at hcs
    obtain ⟨rfl, rfl, rfl⟩ := hcs
    exact ⟨true, [], .sl (z := 1) (cv := fun _ => Go.undef) rfl (Nat.le_refl _) (Nat.zero_le _) (by simp) (by simp) (fun v hv => by simp at hv) (fun h => by omega) (fun q hq => by omega) (fun q hq => by omega), fun _ => rfl, fun n hn => by simp at hn⟩
  · simp [Value.cells] at hcs
    obtain ⟨rfl, rfl, rfl⟩ := hcs
    simp only [if_true] at hz
    refine ⟨false, zs.take n, ?_, by simp, fun m hm' => hwz m (List.mem_of_mem_take hm')⟩
    have hlen : ((zs.take n).map fun n => LV.int k n).length = n := by simp; omega
    have hfl : flat ((zs.take n).map fun n => LV.int k n) = (zs.take n).map fun n => LV.int k n := by
      simp only [flat, List.flatMap_map]
      show (zs.take n).flatMap (fun a => [LV.int k a]) = _
      induction zs.take n with
      | nil => rfl
      | cons x xs ih => simp [ih]
    refine .sl (z := 1) (cv := fun q => .int k (zs.getD q 0)) hlen hl hm (by simp) (by simp) (fun v hv => ?_) (fun hp => ?_) (fun q hq => rfl) fun q hq => ?_
    · obtain ⟨x, _, rfl⟩ := List.mem_map.1 hv; rfl
    · have h0 := hcell 0 (by omega)
      obtain ⟨b, o, sp⟩ := ad
      cases sp with
      | some s =>
        simp only [Addr.add] at h0
        unfold World.cell? at h0
        split at h0
        · simp at h0
        · cases h0
      | none =>
        refine ⟨b, o, rfl, fun h => h, ?_, fun q hq => ?_⟩
        · unfold World.cell? at h0
          split at h0
          · rename_i hh; exact heap_lt hh
          · cases h0
        · have := hcell q (by omega)
          rwa [add_plain] at this
    · rw [hfl]
      have hq' : q < n := by omega
      have e1 : ((zs.take n).map fun n => LV.int k n).getD q .undef = LV.int k (zs.getD q 0) := by
        have hqz : q < zs.length := by omega
        simp [List.getD_eq_getElem?_getD, List.getElem?_take, hq', List.getElem?_eq_getElem hqz]
      rw [e1]
      exact .int
end
end Go.Am
