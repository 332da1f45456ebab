/- A contract told of the model, as one told without memory. -/
import Derived.Test.YtoeonamjbohokaaA22
namespace Go.Proofs.YtoeonamjbohokaaW.Abs
open Go.RowKit
set_option linter.unusedVariables false
set_option linter.unusedSimpArgs false

section
variable {W0 : World} {E : Env} {U : Nat → Prop} {h : Nat → Option AObj} {w w' : World}
theorem cell_same {b o : Nat} (e : w'.heap[b]? = w.heap[b]?) : w'.cell? ⟨b, o, none⟩ = w.cell? ⟨b, o, none⟩ := by unfold World.cell?; simp only [e]
theorem frozen_same {b o : Nat} (e : w'.heap[b]? = w.heap[b]?) : w'.frozen? ⟨b, o, none⟩ = w.frozen? ⟨b, o, none⟩ := by unfold World.frozen?; simp only [e]
/-- what was there is as it was -/
theorem Rel.belowStep (r : Rel W0 E U h w) (b : Below w.heap.size w w') : Rel W0 E U h w' := by
  refine ⟨r.below.trans (b.mono r.below.size), fun b' o v e => ?_, fun b' o k e => Nat.lt_of_lt_of_le (r.lt _ _ _ e) b.size, r.own, r.ids, fun i x e => ?_, r.low⟩
  · rw [cell_same (b.block _ (r.lt _ _ _ e))]; exact r.imm _ _ _ e
  · obtain ⟨bs, h1, h2⟩ := r.objs i x e
    refine ⟨bs, h1, h2.keepOne (Ext.refl E) (fun b' o hk => ?_) (fun c t fz hh => ?_) (fun _ _ o k hk => hk)⟩
    · have hb := b.block _ (r.lt _ _ _ hk)
      exact ⟨hk, cell_same hb, frozen_same hb, fun _ es c hm => by rw [hb]; exact hm⟩
    · have hb := b.block _ (Array.getElem?_eq_some_iff.1 hh).1
      exact ⟨c, by rw [hb]; exact hh⟩
end

/-- a contract that hands back what needs no memory of its own, or memory that was there -/
theorem PCall.of_calls {P : Program} {W0 : World} {f : FuncId} {args : List AV} {r : AV} (he : Enters P f)
    (H : ∀ (E : Env) (w : World) (vs : Array Value) (σ : Heap), Rel W0 E (fun i => i < σ.next) σ.obj w → Reps E args vs.toList → Calls P f vs w fun e w' => ∃ v, e = .returned v ∧ Rep E r v ∧ Below w.heap.size w w') : PCall P W0 f args r := by
  intro σ
  refine ⟨he, fun E w vs hr hv => (H E w vs σ hr hv).mono ?_⟩
  rintro e w' ⟨v, rfl, hrep, hb⟩
  exact ⟨E, σ, Ext.refl E, fun id b e => .inl e, Nat.le_refl _, hr.belowStep hb, .ret r, hrep, rfl, rfl⟩
end Go.Proofs.YtoeonamjbohokaaW.Abs
