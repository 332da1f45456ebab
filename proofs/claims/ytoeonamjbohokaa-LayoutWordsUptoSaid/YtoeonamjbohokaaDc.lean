import Derived.Test.YtoeonamjbohokaaDb
import Derived.Test.YtoeonamjbohokaaA22
/- Pieces compared. -/
namespace Go.Proofs.Ytoeonamjbohokaa.Lt
open Go.Proofs.YtoeonamjbohokaaW.Abs Go
set_option maxRecDepth 100000
set_option maxHeartbeats 1000000
set_option linter.unusedSimpArgs false
set_option linter.unusedVariables false
variable {W0 : World}

def pcEq (x y : Pc) : Bool := decide (x.k = y.k) && x.s == y.s
theorem pcEq_iff (x y : Pc) : pcEq x y = true ↔ x = y := by
  obtain ⟨a, b⟩ := x; obtain ⟨c, d⟩ := y
  simp [pcEq]
def pcsEq : List Pc → List Pc → Bool
  | [], [] => true
  | x :: a, y :: b => pcEq x y && pcsEq a b
  | _, _ => false
theorem pcsEq_iff : ∀ a b : List Pc, pcsEq a b = true ↔ a = b
  | [], [] => by simp [pcsEq]
  | [], _ :: _ => by simp [pcsEq]
  | _ :: _, [] => by simp [pcsEq]
  | x :: a, y :: b => by simp [pcsEq, pcEq_iff, pcsEq_iff a b]

theorem eqCells_pc (x y : Pc) : eqCells [CK.int, CK.str] x.enc y.enc = some (pcEq x y) := by
  obtain ⟨a, b⟩ := x; obtain ⟨c, d⟩ := y
  simp only [Pc.enc_mk, eqCells, eqCell, pcEq, if_true]
  by_cases h : a = c
  · subst h; simp only [beq_self_eq_true, decide_true, Bool.true_and]; cases b == d <;> rfl
  · have : (a == c) = false := by simpa using h
    simp [this, h]

end Go.Proofs.Ytoeonamjbohokaa.Lt

/- Flat texts, as the document says them; few. -/
namespace Go.Proofs.Ytoeonamjbohokaa.Lt
open Go.Proofs.YtoeonamjbohokaaW.Abs Go
set_option maxRecDepth 100000
set_option maxHeartbeats 1000000
set_option linter.unusedSimpArgs false
set_option linter.unusedVariables false
variable {W0 : World}

/-- the texts of a list, each at most 10000, until they are more than 20000 -/
def sums : List Pc → Int → Option Int
  | [], n => some n
  | p :: r, n => if n + min (p.s.length : Int) 10000 > 20000 then none else sums r (n + min (p.s.length : Int) 10000)
def few (t : T) : Bool := (sums (pcs t 1000) 0).isSome && decide (sz t 400 < 400)

theorem few_spec (t : T) (hok : t.ok) : PCall Try.prog W0 12 [.agg t.enc] (.bool (few t)) := by
  have hlen := pcs_bd t 1000 (by omega)
  have hpc := pieces_spec (W0 := W0) t hok 1000 (by omega) (by omega)
  have hsz := size_spec (W0 := W0) t 400 (by omega) (by omega)
  unfold few
  generalize hl : pcs t 1000 = l at hlen hpc ⊢
  have hA := IsRow.rowV (l.map Pc.enc)
  generalize rowV (l.map Pc.enc) = A at hA hpc
  generalize hz : sz t 400 = z at hsz ⊢
  obtain ⟨k, s, nil, kids⟩ := t
  refine pcall2 cok Try.func12 F12d F12e F12c F12w F12r (fun N => ?_)
  refine ev2I_intro ?_
  simp (disch := first | omega | (simp only [List.length_set]; omega)) [F12s, T.enc_mk]
  refine hcallI_pure hpc (by simp [bareL, T.enc_mk]) (fun M hM => ?_)
  simp
  refine loop2I_ind cok F12l0w (m := fun i => l.length - i) (I := fun i ts loc τ => i ≤ l.length ∧ loc 0 = .box N 27 [[.int .i64 k, .str s, kidsV nil kids]] ∧ ts.length = 28 ∧ tmp ts 1 = .bp N 0 0 ∧ tmp ts 3 = A ∧ tmp ts 5 = .int .i64 i ∧ ∃ n : Int, tmp ts 4 = .int .i64 n ∧ 0 ≤ n ∧ n ≤ 20000 ∧ sums (l.drop i) n = sums l 0) ?_ 0 ?_
  · rintro i ts loc τ ⟨hi, h0, hts, h1, h3, h5, n, h4, hn0, hn1, hs'⟩ ih'
    simp (disch := first | omega | (simp only [List.length_set]; omega)) [F12l0, h0, h1, h3, h4, h5, hA.len, hts]
    by_cases hlt : i < l.length
    · obtain ⟨x, hx⟩ : ∃ x, l[i]? = some x := ⟨l[i], by simp [hlt]⟩
      have ha : (l.map Pc.enc)[i]? = some x.enc := by simp [hx]
      have hda : l.drop i = x :: l.drop (i + 1) := by
        rw [List.drop_eq_getElem_cons hlt]; congr 1; simpa [hlt] using hx
      rw [hda, sums] at hs'
      obtain ⟨xk, xs⟩ := x
      dsimp only at hs'
      simp (disch := first | omega | (simp only [List.length_set]; omega)) [hlt, h0, h1, h3, h4, h5, hA.len, hts, hA.elems, hA.at ha, hx, wrap_id]
      have hmin : (if 10000 < (xs.length : Int) then (10000 : Int) else xs.length) = min (xs.length : Int) 10000 := by split <;> omega
      rw [hmin]
      by_cases hbig : n + min (xs.length : Int) 10000 > 20000
      · rw [if_pos hbig] at hs'
        simp (disch := first | omega | (simp only [List.length_set]; omega)) [hbig, h0, h1, h3, h4, h5, hA.len, hts, hA.elems, hA.at ha, hx, wrap_id]
        rw [← hs']
        simp
      · rw [if_neg hbig] at hs'
        simp (disch := first | omega | (simp only [List.length_set]; omega)) [hbig, h0, h1, h3, h4, h5, hA.len, hts, hA.elems, hA.at ha, hx, wrap_id]
        refine ih' (i + 1) _ _ _ (by omega) ⟨by omega, h0, ?_, ?_, ?_, ?_, n + min (xs.length : Int) 10000, ?_, by omega, by omega, hs'⟩
        · simp [hts]
        · simp (disch := first | omega | (simp only [List.length_set]; omega)) [h1]
        · simp (disch := first | omega | (simp only [List.length_set]; omega)) [h3]
        · simp (disch := first | omega | (simp only [List.length_set]; omega)) [h5]
        · simp (disch := first | omega | (simp only [List.length_set]; omega)) [h4]
    · simp (disch := first | omega | (simp only [List.length_set]; omega)) [hlt, h0, h1, h3, h4, h5, hA.len, hts]
      rw [List.drop_of_length_le (by omega), sums] at hs'
      refine hcallI_pure hsz (by simp [bareL, T.enc_mk]) (fun M' hM2 => ?_)
      simp (disch := first | omega | (simp only [List.length_set]; omega)) [hlt, h0, h1, h3, h4, h5, hA.len, hts]
      rw [← hs']
      simp
  · simp
end Go.Proofs.Ytoeonamjbohokaa.Lt

/- The plain law: a plan's document has the plan's pieces. -/
namespace Go.Proofs.Ytoeonamjbohokaa.Lt
open Go.Proofs.YtoeonamjbohokaaW.Abs Go
set_option maxRecDepth 100000
set_option linter.unusedSimpArgs false
set_option linter.unusedVariables false

mutual
/-- all pieces -/
def fullP : T → List Pc
  | .mk k s _ kids =>
    if k = 1 then (if s = [] then [] else [⟨1, s⟩])
    else if k = 2 ∨ k = 3 ∨ k = 4 then [⟨k, []⟩]
    else if k = 5 ∨ k = 7 then ⟨k, []⟩ :: fullL kids ++ [⟨k + 1, []⟩]
    else fullL kids
def fullL : List T → List Pc
  | [] => []
  | t :: r => fullP t ++ fullL r
end
mutual
def size : T → Int
  | .mk _ _ _ kids => 1 + sizeL kids
def sizeL : List T → Int
  | [] => 0
  | t :: r => size t + sizeL r
end

theorem plainL_row (nil : Bool) (l : List T) : plain (row nil l) = plainL l := by simp [row, plain]
mutual
theorem plain_built : ∀ t : T, plain (built t) = fullP t
  | .mk k s nil kids => by
    have ih := plain_builtL kids
    have w6 : IntKind.i64.wrap 6 = 6 := by decide
    have w8 : IntKind.i64.wrap 8 = 8 := by decide
    simp only [built, fullP]
    by_cases h1 : k = 1
    · subst h1; simp only [if_true, text, none']
      by_cases hs : s = [] <;> simp [hs, plain, plainL]
    by_cases h2 : k = 2
    · subst h2; simp [piece1, plain, plainL]
    by_cases h3 : k = 3
    · subst h3; simp [piece1, plain, plainL]
    by_cases h4 : k = 4
    · subst h4; simp [piece1, plain, plainL]
    by_cases h5 : k = 5
    · subst h5; simp [nest, plain, plainL, plainL_row, ih, w6]
    by_cases h7 : k = 7
    · subst h7; simp [group, plain, plainL, plainL_row, ih, w8]
    simp [h1, h2, h3, h4, h5, h7, plainL_row, ih]
theorem plain_builtL : ∀ l : List T, plainL (builtL l) = fullL l
  | [] => by simp [builtL, plainL, fullL]
  | t :: r => by simp [builtL, plainL, fullL, plain_built t, plain_builtL r]
end

mutual
theorem size_pos : ∀ t : T, 1 ≤ size t
  | .mk _ _ _ kids => by have := sizeL_pos kids; simp only [size]; omega
theorem sizeL_pos : ∀ l : List T, 0 ≤ sizeL l
  | [] => by simp [sizeL]
  | t :: r => by have := size_pos t; have := sizeL_pos r; simp only [sizeL]; omega
end
mutual
theorem full_len : ∀ t : T, ((fullP t).length : Int) ≤ 2 * size t
  | .mk k s nil kids => by
    have ih := full_lenL kids
    have := sizeL_pos kids
    simp only [fullP, size]
    split
    · split <;> simp <;> omega
    split
    · simp; omega
    split
    · simp; omega
    · omega
theorem full_lenL : ∀ l : List T, ((fullL l).length : Int) ≤ 2 * sizeL l
  | [] => by simp [fullL, sizeL]
  | t :: r => by have := full_len t; have := full_lenL r; simp [fullL, sizeL]; omega
end

theorem szL_ge : ∀ (l : List T) (m n : Int), 1 ≤ n → n ≤ szL l m n
  | [], m, n, h => by simp [szL]
  | t :: r, m, n, h => by
    simp only [szL]; split
    · have h1 := sz_bd t (m - n) (by omega)
      have := szL_ge r m (n + sz t (m - n)) (by omega)
      omega
    · omega
mutual
theorem sz_eq : ∀ (t : T) (m : Int), sz t m < m → sz t m = size t
  | .mk _ _ _ kids, m, h => by simp only [sz, size] at h ⊢; exact szL_eq kids m 1 (by omega) h
theorem szL_eq : ∀ (l : List T) (m n : Int), 1 ≤ n → szL l m n < m → szL l m n = n + sizeL l
  | [], m, n, h0, h => by simp [szL, sizeL]
  | t :: r, m, n, h0, h => by
    simp only [szL, sizeL] at h ⊢
    split at h
    · rename_i hn
      have h1 := sz_bd t (m - n) (by omega)
      have h2 := szL_ge r m (n + sz t (m - n)) (by omega)
      have h3 := sz_eq t (m - n) (by omega)
      rw [if_pos hn, szL_eq r m _ (by omega) h]; omega
    · omega
end
mutual
theorem pcs_eq : ∀ (t : T) (m : Int), ((fullP t).length : Int) < m → pcs t m = fullP t
  | .mk k s nil kids, m, h => by
    simp only [pcs, fullP] at h ⊢
    by_cases h1 : k = 1
    · simp only [if_pos h1]
    simp only [if_neg h1] at h ⊢
    by_cases h2 : k = 2 ∨ k = 3 ∨ k = 4
    · simp only [if_pos h2]
    simp only [if_neg h2] at h ⊢
    by_cases h5 : k = 5 ∨ k = 7
    · simp only [if_pos h5] at h ⊢
      rw [pcsL_eq kids m _ (by simp at h ⊢; omega)]; simp
    · simp only [if_neg h5] at h ⊢
      rw [pcsL_eq kids m _ (by simpa using h)]; simp
theorem pcsL_eq : ∀ (l : List T) (m : Int) (acc : List Pc), (acc.length : Int) + (fullL l).length < m → pcsL l m acc = acc ++ fullL l
  | [], m, acc, h => by simp [pcsL, fullL]
  | t :: r, m, acc, h => by
    simp only [fullL, List.length_append] at h
    simp only [pcsL, fullL]
    rw [if_pos (by omega), pcs_eq t _ (by omega), pcsL_eq r m _ (by simp; omega)]
    simp
end

/-- few parts: the plan's pieces are its document's -/
theorem few_pieces {t : T} (h : few t = true) : plain (built t) = pcs t 1000 ∧ (pcs t 1000).length < 800 := by
  simp only [few, Bool.and_eq_true, decide_eq_true_eq] at h
  have h1 := sz_eq t 400 h.2
  have h2 := full_len t
  have h3 := pcs_eq t 1000 (by omega)
  rw [h3]
  exact ⟨plain_built t, by omega⟩
end Go.Proofs.Ytoeonamjbohokaa.Lt

/- The chapter's example; the law of pieces. -/
namespace Go.Proofs.Ytoeonamjbohokaa.Lt
open Go.Proofs.YtoeonamjbohokaaW.Abs Go
set_option maxRecDepth 100000
set_option maxHeartbeats 1000000
set_option linter.unusedSimpArgs false
set_option linter.unusedVariables false
variable {W0 : World}

theorem built_ok : ∀ t : T, t.ok → (built t).ok
  | .mk k s nil kids, h => by
    obtain ⟨hs, hk, hkids⟩ := T.ok_mk.1 h
    have ih : ∀ x ∈ kids, (built x).ok := fun x hx => built_ok x (hkids x hx)
    have hrow : (row true (builtL kids)).ok := by
      rw [row, T.ok_mk]
      refine ⟨by simp, by simpa [builtL_eq] using hk, fun x hx => ?_⟩
      rw [builtL_eq] at hx
      obtain ⟨y, hy, rfl⟩ := List.mem_map.1 hx
      exact ih y hy
    have hp : ∀ k, (piece1 k).ok := fun k => by rw [piece1, T.ok_mk]; simp
    simp only [built]
    split
    · unfold text none'; split <;> (rw [T.ok_mk]; simp [hs])
    split
    · exact hp _
    split
    · exact hp _
    split
    · exact hp _
    split
    · rw [nest, T.ok_mk]; simp [hrow]
    split
    · rw [group, T.ok_mk]; simp [hrow]
    · exact hrow
termination_by t => SizeOf.sizeOf t
decreasing_by
  have := List.sizeOf_lt_of_mem hx
  simp; omega

mutual
theorem full_s : ∀ t : T, t.ok → ∀ p ∈ fullP t, p.s.length ≤ 140737488355328
  | .mk k s nil kids, h, p, hp => by
    obtain ⟨hs, hk, hkids⟩ := T.ok_mk.1 h
    simp only [fullP] at hp
    split at hp
    · split at hp
      · simp at hp
      · simp at hp; subst hp; exact hs
    split at hp
    · simp at hp; subst hp; simp
    split at hp
    · simp only [List.cons_append, List.mem_cons, List.mem_append, List.not_mem_nil, or_false] at hp
      rcases hp with rfl | hp | rfl
      · simp
      · exact full_sL kids hkids p hp
      · simp
    · exact full_sL kids hkids p hp
theorem full_sL : ∀ l : List T, (∀ x, x ∈ l → x.ok) → ∀ p ∈ fullL l, p.s.length ≤ 140737488355328
  | [], _, p, hp => by simp [fullL] at hp
  | t :: r, h, p, hp => by
    simp only [fullL, List.mem_append] at hp
    rcases hp with hp | hp
    · exact full_s t (h t (by simp)) p hp
    · exact full_sL r (fun x hx => h x (by simp [hx])) p hp
end


theorem wid_bd : ∀ l : List Pc, l.length ≤ 10000 → (∀ p ∈ l, p.s.length ≤ 10000) → wid l ≤ 10001 * l.length
  | [], _, _ => by simp [wid]
  | p :: r, h, hp => by
    have := wid_bd r (by simp at h; omega) (fun q hq => hp q (by simp [hq]))
    have := hp p (by simp)
    simp only [wid, List.length_cons]; omega

def exIn : T := row false [piece1 3, text [97, 44], piece1 2, text [98]]
def exDoc : T := row false [text [102, 40], nest exIn, text [41]]
theorem exDoc_plain : plain exDoc = [⟨1, [102, 40]⟩, ⟨5, []⟩, ⟨3, []⟩, ⟨1, [97, 44]⟩, ⟨2, []⟩, ⟨1, [98]⟩, ⟨6, []⟩, ⟨1, [41]⟩] := by
  have w6 : IntKind.i64.wrap 6 = 6 := by decide
  simp [exDoc, exIn, row, text, nest, piece1, plain, plainL, w6]
theorem piece1_ok (k : Int) : (piece1 k).ok := by rw [piece1, T.ok_mk]; simp
theorem text_ok {l : List UInt8} (h : l.length ≤ 140737488355328) : (text l).ok := by
  unfold text none'; split <;> (rw [T.ok_mk]; simp [h])
theorem row_ok {nil : Bool} {l : List T} (h : l.length * 48 ≤ 140737488355328) (hl : ∀ x, x ∈ l → x.ok) : (row nil l).ok := by
  rw [row, T.ok_mk]; exact ⟨by simp, h, hl⟩
theorem nest_ok {t : T} (h : t.ok) : (nest t).ok := by rw [nest, T.ok_mk]; simp [h]
theorem group_ok {t : T} (h : t.ok) : (group t).ok := by rw [group, T.ok_mk]; simp [h]
theorem exDoc_ok : exDoc.ok := by
  refine row_ok (by simp) (fun x hx => ?_)
  simp at hx
  rcases hx with rfl | rfl | rfl
  · exact text_ok (by simp)
  · refine nest_ok (row_ok (by simp) (fun x hx => ?_))
    simp at hx
    rcases hx with rfl | rfl | rfl | rfl
    · exact piece1_ok _
    · exact text_ok (by simp)
    · exact piece1_ok _
    · exact text_ok (by simp)
  · exact text_ok (by simp)
theorem row2_plain (nil : Bool) (a b : T) : plain (row nil [a, b]) = plain a ++ plain b := by simp [plainL_row, plainL]
theorem piece1_plain {k : Int} (h0 : 0 < k) (h4 : ¬ 4 < k) : plain (piece1 k) = [⟨k, []⟩] := by simp [piece1, plain, plainL, h0, h4]

end Go.Proofs.Ytoeonamjbohokaa.Lt

/- Small plans; the laws of pieces, flat texts and wraps. -/
namespace Go.Proofs.Ytoeonamjbohokaa.Lt
open Go.Proofs.YtoeonamjbohokaaW.Abs Go
set_option maxRecDepth 100000
set_option maxHeartbeats 1000000
set_option linter.unusedSimpArgs false
set_option linter.unusedVariables false
variable {W0 : World}

mutual
/-- how much a plan is -/
def bulk : T → Nat
  | .mk _ s _ kids => s.length + 4 + bulkL kids
def bulkL : List T → Nat
  | [] => 0
  | t :: r => bulk t + bulkL r
end
theorem bulk_mem : ∀ {l : List T} {t : T}, t ∈ l → bulk t ≤ bulkL l
  | a :: r, t, h => by
    simp only [bulkL]
    rcases List.mem_cons.1 h with rfl | h
    · omega
    · have := bulk_mem h; omega
theorem bulkL_len : ∀ l : List T, l.length ≤ bulkL l
  | [] => by simp [bulkL]
  | .mk _ s _ kids :: r => by have := bulkL_len r; simp only [bulkL, bulk, List.length_cons]; omega
theorem bulk_ok : ∀ t : T, bulk t ≤ 1048576 → t.ok
  | .mk k s nil kids, h => by
    simp only [bulk] at h
    have := bulkL_len kids
    exact T.ok_mk.2 ⟨by omega, by omega, fun x hx => bulk_ok x (by have := bulk_mem hx; omega)⟩
termination_by t => SizeOf.sizeOf t
decreasing_by
  have := List.sizeOf_lt_of_mem hx
  simp; omega
theorem wid_app : ∀ a b : List Pc, wid (a ++ b) = wid a + wid b
  | [], b => by simp [wid]
  | p :: r, b => by simp only [List.cons_append, wid, wid_app r b]; omega
theorem wid_len : ∀ l : List Pc, l.length ≤ wid l
  | [] => by simp
  | p :: r => by have := wid_len r; simp only [wid, List.length_cons]; omega
mutual
theorem wid_full : ∀ t : T, wid (fullP t) ≤ bulk t
  | .mk k s nil kids => by
    have ih := wid_fullL kids
    simp only [fullP, bulk]
    split
    · split <;> simp [wid] <;> omega
    split
    · simp [wid]; omega
    split
    · simp [wid, wid_app]; omega
    · omega
theorem wid_fullL : ∀ l : List T, wid (fullL l) ≤ bulkL l
  | [] => by simp [fullL, wid]
  | t :: r => by have := wid_full t; have := wid_fullL r; simp only [fullL, bulkL, wid_app]; omega
end
/-- of a plan's document -/
theorem built_facts {t : T} (h : bulk t ≤ 1048576) : t.ok ∧ (built t).ok ∧ wid (plain (built t)) ≤ 1048576 ∧ (plain (built t)).length ≤ 1048576 := by
  have h1 := wid_full t
  rw [← plain_built] at h1
  have h2 := wid_len (plain (built t))
  exact ⟨bulk_ok t h, built_ok t (bulk_ok t h), by omega, by omega⟩

end Go.Proofs.Ytoeonamjbohokaa.Lt
