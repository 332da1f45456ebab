/- A plan that came in. -/
import Derived.Test.YtgahmpfpnclefaaDoc5
import Derived.Test.YtgahmpfpnclefaaA21
namespace Go.Proofs.Ytgahmpfpnclefaa.Lt
open Go.Proofs.YtgahmpfpnclefaaW.Abs Go
set_option maxRecDepth 100000
set_option linter.unusedSimpArgs false
set_option linter.unusedVariables false

/-- the types that hold a plan: it is named and it is what it stands for -/
def isPlan (t : TypeId) : Prop := Try.prog.underlying t = Try.prog.underlying 24 ∧ Try.prog.cellsOf t = 3

theorem agg3 {H : Type} {W : World} {enc : TypeId × Value → H} {t : TypeId} (hp : isPlan t) (fuel : Nat) {cs : List Value} {d : DataW H} {ps : List MemPlace} (h : DataW.trod enc Try.prog W 0 (fun _ => true) true fuel t cs = some (d, ps)) :
    ∃ c0 c1 c2 d0 d1 d2 p0 p1 p2 n, fuel = n + 1 ∧ cs = [c0, c1, c2] ∧ d = .agg [d0, d1, d2] ∧ DataW.trod enc Try.prog W 0 (fun _ => true) true n 3 [c0] = some (d0, p0) ∧ DataW.trod enc Try.prog W 0 (fun _ => true) true n 9 [c1] = some (d1, p1) ∧ DataW.trod enc Try.prog W 0 (fun _ => true) true n 22 [c2] = some (d2, p2) := by
  have hu := hp.1.trans Try.underlying24
  obtain ⟨xs, n, hf, hx, hl, hlen, hfs⟩ := DataW.trod_struct hu h
  rw [hp.2] at hl
  match cs, hl with
  | [c0, c1, c2], _ =>
    match xs, hlen with
    | [y0, y1, y2], _ =>
      have e3 : Try.prog.cellsOf 3 = 1 := by kernel_rfl
      have e9 : Try.prog.cellsOf 9 = 1 := by kernel_rfl
      have e22 : Try.prog.cellsOf 22 = 1 := by kernel_rfl
      have h0 := hfs 0 _ rfl
      have h1 := hfs 1 _ rfl
      have h2 := hfs 2 _ rfl
      cases hx
      refine ⟨c0, c1, c2, y0.1, y1.1, y2.1, y0.2, y1.2, y2.2, n, hf, rfl, rfl, ?_, ?_, ?_⟩
      · simpa [e3] using h0
      · simpa [e9] using h1
      · simpa [e22] using h2

theorem rd_T {H : Type} {W : World} {enc : TypeId × Value → H} : ∀ (fuel : Nat) (t : TypeId), isPlan t → ∀ (cs : List Value) (d : DataW H) (ps : List MemPlace), DataW.trod enc Try.prog W 0 (fun _ => true) true fuel t cs = some (d, ps) →
    ∃ x : T, Reps (inE W) x.enc cs ∧ ((∀ n ∈ d.weights Try.prog t, n ≤ reachBytes) → x.ok) := by
  intro fuel
  induction fuel using Nat.strongRecOn with
  | _ fuel ih =>
    intro t hp cs d ps h
    obtain ⟨c0, c1, c2, d0, d1, d2, p0, p1, p2, n, rfl, rfl, rfl, h0, h1, h2⟩ := agg3 hp fuel h
    obtain ⟨k, e0, rfl, _⟩ := inInt Try.underlying3 h0
    cases e0
    obtain ⟨s, e1, rfl⟩ := inString Try.underlying9 h1
    cases e1
    have hu := hp.1.trans Try.underlying24
    have hw : ∀ m ∈ DataW.weights Try.prog t (.agg [DataW.lit (.int .i64 k), .lit (.string s), d2] : DataW H), m ∈ DataW.weights Try.prog t (.agg [DataW.lit (.int .i64 k), .lit (.string s), d2] : DataW H) := fun m hm => hm
    have he22 := Try.underlying22
    have hc24 : Try.prog.cellsOf 24 = 3 := by kernel_rfl
    have hpe : isPlan 24 := ⟨rfl, hc24⟩
    have hb : Try.prog.bytesOf 24 = 48 := by kernel_rfl
    rcases inSlice he22 (by rw [hpe.2]; decide) h2 (Q := fun x di => ∃ y : T, x = y.enc ∧ ((∀ n ∈ di.weights Try.prog 24, n ≤ reachBytes) → y.ok)) (fun m hm cs d ps hh => by
      obtain ⟨y, hy, hok⟩ := ih m (by omega) 24 hpe cs d ps hh
      exact ⟨y.enc, hy, by simp, y, rfl, hok⟩) with ⟨e2, rfl⟩ | ⟨a, cap, elems, rest, es, e2, rfl, hlen, hrow, hel⟩
    · cases e2
      refine ⟨.mk k s true [], ?_, fun hw => T.ok_mk.2 ⟨?_, by simp, by simp⟩⟩
      · rw [T.enc_mk]; exact .cons (.int _ _) (.cons (.str _) (.cons .nils .nil))
      · have := hw s.length (by simp [DataW.weights, hu, Try.underlying24, DataW.weightsEach])
        simp [reachBytes] at this; omega
    · cases e2
      obtain ⟨ys, hyl, hys⟩ := list_of (R := fun i (y : T) => ∃ di, es[i]? = some y.enc ∧ elems[i]? = some di ∧ ((∀ n ∈ di.weights Try.prog 24, n ≤ reachBytes) → y.ok)) es.length (fun i hi => by
        obtain ⟨di, hdi, y, hy, hok⟩ := hel i es[i] (List.getElem?_eq_getElem hi)
        exact ⟨y, di, by rw [List.getElem?_eq_getElem hi, hy], hdi, hok⟩)
      have hes : es = ys.map T.enc := by
        apply List.ext_getElem?
        intro i
        rw [List.getElem?_map]
        rcases Nat.lt_or_ge i ys.length with hi | hi
        · obtain ⟨di, h1, _, _⟩ := hys i ys[i] (List.getElem?_eq_getElem hi)
          rw [h1, List.getElem?_eq_getElem hi]; rfl
        · rw [List.getElem?_eq_none hi, List.getElem?_eq_none (by omega)]; rfl
      refine ⟨.mk k s false ys, ?_, fun hw => T.ok_mk.2 ⟨?_, ?_, fun y hy => ?_⟩⟩
      · rw [T.enc_mk, kidsV_false, ← hes]; exact .cons (.int _ _) (.cons (.str _) (.cons hrow .nil))
      · have := hw s.length (by simp [DataW.weights, hu, Try.underlying24, DataW.weightsEach])
        simp [reachBytes] at this; omega
      · have := hw ((elems.length + rest.length) * Try.prog.bytesOf 24) (by simp [DataW.weights, hu, Try.underlying24, DataW.weightsEach, he22])
        rw [hb] at this
        simp [reachBytes] at this; omega
      · obtain ⟨i, hi⟩ := List.mem_iff_getElem?.1 hy
        obtain ⟨di, _, h4, h5⟩ := hys i y hi
        refine h5 fun n hn => hw n ?_
        have hall : ∀ (l : List (DataW H)) (i : Nat), l[i]? = some di → n ∈ DataW.weightsAll Try.prog 24 l := by
          intro l
          induction l with
          | nil => intro i h; simp at h
          | cons x r ihr =>
            intro i h
            cases i with
            | zero => simp at h; subst h; simp [DataW.weightsAll, hn]
            | succ j => simp [DataW.weightsAll, ihr j (by simpa using h)]
        simp [DataW.weights, hu, Try.underlying24, DataW.weightsEach, he22, hall elems i h4]
end Go.Proofs.Ytgahmpfpnclefaa.Lt
