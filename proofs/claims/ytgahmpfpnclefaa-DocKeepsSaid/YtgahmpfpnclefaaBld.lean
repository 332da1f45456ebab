/- strings.Builder: what its functions do. -/
import Derived.Test.YtgahmpfpnclefaaLt
namespace Go.Proofs.Ytgahmpfpnclefaa.Lt
open Go.Proofs.YtgahmpfpnclefaaW.Abs Go
set_option maxRecDepth 100000
set_option maxHeartbeats 2000000
set_option linter.unusedSimpArgs false
set_option linter.unusedVariables false
variable {W0 : World}

/-- a builder, and nothing else: id its box (type ty, post: what stands behind it there), l its bytes -/
def bh (id : Nat) (ty : TypeId) (post : List AV) (a : AV) (tok : Nat) (l : List UInt8) : Hp := fun i =>
  if i = id then some (.box ty [a :: accV (ind l) tok :: post]) else if l ≠ [] ∧ i = tok then some (.tail (some 5) 1) else none
structure BOk (n id : Nat) (a : AV) (tok : Nat) (l : List UInt8) : Prop where
  lt : id < n
  ad : a = .nilp ∨ a = .bp id 0 0
  tk : l ≠ [] → tok < n ∧ tok ≠ id
theorem BOk.mono {n m id : Nat} {a : AV} {tok : Nat} {l : List UInt8} (h : BOk n id a tok l) (hm : n ≤ m) : BOk m id a tok l :=
  ⟨Nat.lt_of_lt_of_le h.lt hm, h.ad, fun hl => by have := h.tk hl; exact ⟨by omega, this.2⟩⟩
@[simp] theorem bh_id (id : Nat) (ty : TypeId) (post : List AV) (a : AV) (tok : Nat) (l : List UInt8) : bh id ty post a tok l id = some (.box ty [a :: accV (ind l) tok :: post]) := by simp [bh]
theorem bh_tok {n id : Nat} {ty : TypeId} {post : List AV} {a : AV} {tok : Nat} {l : List UInt8} (h : BOk n id a tok l) (hl : l ≠ []) : bh id ty post a tok l tok = some (.tail (some 5) 1) := by
  have := h.tk hl
  simp [bh, this.2, hl]
theorem ind_ne {l : List UInt8} : ind l ≠ [] ↔ l ≠ [] := by cases l <;> simp [ind]
theorem bh_set {id : Nat} {ty : TypeId} {post : List AV} {a a' : AV} {tok : Nat} {l : List UInt8} : upd (bh id ty post a tok l) id (some (.box ty [a' :: accV (ind l) tok :: post])) = bh id ty post a' tok l := by
  funext i; simp only [upd, bh]; split <;> simp_all
theorem bh_acc {n id : Nat} {ty : TypeId} {post : List AV} {a : AV} {tok : Nat} {l : List UInt8} (h : BOk n id a tok l) : AccOk (bh id ty post a tok l) 1 tok (ind l) := by
  intro hl
  rw [bh_tok h (ind_ne.1 hl)]; rfl
theorem bh_app {n id : Nat} {ty : TypeId} {post : List AV} {a : AV} {tok : Nat} {l s : List UInt8} (h : BOk n id a tok l) {id' : Nat} (hi : n ≤ id') {cs : List AV} (hc : cs = a :: accV (ind (l ++ s)) id' :: post) :
    upd (accHeap id' 5 1 (bh id ty post a tok l) (ind s) (ind l) tok) id (some (.box ty [cs])) = bh id ty post a id' (l ++ s) := by
  subst hc
  have hid := h.lt
  funext i
  by_cases h0 : i = id
  · subst h0; simp
  · rw [upd_ne h0]
    by_cases hl : l = []
    · subst hl
      by_cases hs : s = []
      · subst hs; simp [accHeap, ind, bh, h0]
      · have : ind s ≠ [] := ind_ne.2 hs
        have h9 : ind ([] : List UInt8) = [] := rfl
        simp only [accHeap, h9, if_true, this, if_false]
        by_cases h1 : i = id'
        · subst h1; simp [bh, h0, hs]
        · rw [upd_ne h1]; simp [bh, h0, h1]
    · have h2 : ind l ≠ [] := ind_ne.2 hl
      have h3 := h.tk hl
      simp only [accHeap, h2, if_false]
      by_cases h1 : i = id'
      · subst h1
        rw [upd_same, bh_tok h hl]
        simp [bh, h0, hl, tailTy]
      · rw [upd_ne h1]
        by_cases h4 : i = tok
        · subst h4
          simp [bh, h1, h0]
        · rw [upd_ne h4]; simp [bh, h0, h1, h4]

theorem ind_app (l s : List UInt8) : ind (l ++ s) = ind l ++ ind s := by simp [ind]
@[simp] theorem ind_length (l : List UInt8) : (ind l).length = l.length := by simp [ind]
theorem bytesOf_ind : ∀ l : List UInt8, bytesOf (ind l) = some l
  | [] => rfl
  | b :: r => by
    have := bytesOf_ind r
    simp only [ind, List.map_cons, bytesOf] at this ⊢
    rw [if_pos ⟨by omega, by have := b.toNat_lt; omega⟩, show List.map (fun b : UInt8 => [AV.int .u8 ↑b.toNat]) r = ind r from rfl, bytesOf_ind r]
    simp

theorem copyCheck_spec {n id : Nat} {ty : TypeId} {post : List AV} {a : AV} {tok : Nat} {l : List UInt8} (hb : BOk n id a tok l) (hty : (ty, post.length + 2) ∈ [(53, 2), (54, 2)]) :
    HCalls Try.prog W0 31 [.bp id 0 0] ⟨n, bh id ty post a tok l⟩ fun o τ' => o = .ret (.tup []) ∧ τ'.obj = bh id ty post (.bp id 0 0) tok l := by
  refine hcalls cok Try.func31 F31d F31e F31c F31w F31r ?_
  refine ev2I_intro ?_
  rcases hb.ad with rfl | rfl
  · simp [F31s]
    refine andI_intro (by simpa using hty) ?_
    simp [F31q]
    exact bh_set
  · simp [F31s]

theorem writeString_spec {n id : Nat} {ty : TypeId} {post : List AV} {a : AV} {tok : Nat} {l : List UInt8} (hb : BOk n id a tok l) (hty : (ty, post.length + 2) ∈ [(53, 2), (54, 2)]) (s : List UInt8) (hs : l.length + s.length ≤ 140737488355328) :
    HCalls Try.prog W0 26 [.bp id 0 0, .str s] ⟨n, bh id ty post a tok l⟩ fun o τ' => o = .ret (.tup [.int .i64 s.length, .nili]) ∧ ∃ tok', BOk τ'.next id (.bp id 0 0) tok' (l ++ s) ∧ τ'.obj = bh id ty post (.bp id 0 0) tok' (l ++ s) := by
  refine hcalls cok Try.func26 F26d F26e F26c F26w F26r ?_
  refine ev2I_intro ?_
  simp [F26s]
  refine hcallI_use (copyCheck_spec (hb.mono (by omega)) hty) (by simp) (fun o τ' hn hQ => ?_)
  obtain ⟨rfl, hτ⟩ := hQ
  have hn' : n + 2 + 2 ≤ τ'.next := hn
  have hb1 : BOk τ'.next id (.bp id 0 0) tok l := ⟨by have := hb.lt; omega, .inr rfl, fun h => by have := hb.tk h; exact ⟨by omega, this.2⟩⟩
  simp [hτ]
  refine andI_intro ?_ ?_
  · rw [appOk_acc (bh_acc hb1)]
    refine ⟨fun e he => ?_, ?_⟩
    · simp only [ind, List.mem_map] at he; obtain ⟨b, _, rfl⟩ := he; rfl
    · simp; omega
  have hid : id ≠ τ'.next + 6 := by have := hb1.lt; omega
  have hg : accHeap (τ'.next + 6) 5 1 (bh id ty post (.bp id 0 0) tok l) (ind s) (ind l) tok id = some (.box ty [.bp id 0 0 :: accV (ind l) tok :: post]) := by
    rw [accHeap_ne hid (fun h => (hb1.tk (ind_ne.1 h)).2.symm)]; simp
  simp [hτ, hg]
  refine ⟨τ'.next + 6, ⟨by have := hb1.lt; omega, .inr rfl, fun _ => ⟨by omega, fun h => hid h.symm⟩⟩, bh_app hb1 (by omega) (by rw [ind_app])⟩

theorem writeByte_spec {n id : Nat} {ty : TypeId} {post : List AV} {a : AV} {tok : Nat} {l : List UInt8} (hb : BOk n id a tok l) (hty : (ty, post.length + 2) ∈ [(53, 2), (54, 2)]) (c : UInt8) (hs : l.length + 1 ≤ 140737488355328) :
    HCalls Try.prog W0 27 [.bp id 0 0, .int .u8 c.toNat] ⟨n, bh id ty post a tok l⟩ fun o τ' => o = .ret .nili ∧ ∃ tok', BOk τ'.next id (.bp id 0 0) tok' (l ++ [c]) ∧ τ'.obj = bh id ty post (.bp id 0 0) tok' (l ++ [c]) := by
  refine hcalls cok Try.func27 F27d F27e F27c F27w F27r ?_
  refine ev2I_intro ?_
  simp [F27s]
  refine hcallI_use (copyCheck_spec (hb.mono (by omega)) hty) (by simp) (fun o τ' hn hQ => ?_)
  obtain ⟨rfl, hτ⟩ := hQ
  have hn' : n + 1 + 2 ≤ τ'.next := hn
  have hb1 : BOk τ'.next id (.bp id 0 0) tok l := ⟨by have := hb.lt; omega, .inr rfl, fun h => by have := hb.tk h; exact ⟨by omega, this.2⟩⟩
  have hi : [[AV.int .u8 (c.toNat : Int)]] = ind [c] := rfl
  simp [hτ]
  refine andI_intro ?_ ?_
  · rw [appOk_acc (bh_acc hb1)]
    simp; omega
  have hid7 : id ≠ τ'.next + 7 := by have := hb1.lt; omega
  have hg : accHeap (τ'.next + 7) 5 1 (bh id ty post (.bp id 0 0) tok l) (ind [c]) (ind l) tok id = some (.box ty [.bp id 0 0 :: accV (ind l) tok :: post]) := by
    rw [accHeap_ne hid7 (fun h => (hb1.tk (ind_ne.1 h)).2.symm)]; simp
  rw [hi]
  simp [hg]
  exact ⟨τ'.next + 7, ⟨by have := hb1.lt; omega, .inr rfl, fun _ => ⟨by omega, fun h => hid7 h.symm⟩⟩, bh_app hb1 (by omega) (by rw [ind_app])⟩

theorem string_spec {n id : Nat} {ty : TypeId} {post : List AV} {a : AV} {tok : Nat} {l : List UInt8} (hb : BOk n id a tok l) (hs : l.length ≤ 140737488355328) :
    HCalls Try.prog W0 28 [.bp id 0 0] ⟨n, bh id ty post a tok l⟩ fun o τ' => o = .ret (.str l) ∧ τ'.obj = bh id ty post a tok l := by
  refine hcalls cok Try.func28 F28d F28e F28c F28w F28r ?_
  refine ev2I_intro ?_
  have hid : id < n + 1 := by have := hb.lt; omega
  by_cases hl : l = []
  · subst hl
    simp [F28s, hid, ind]
  · have h1 := bh_tok (ty := ty) (post := post) hb hl
    have h2 : tok < n + 1 := by have := (hb.tk hl).1; omega
    have h3 : ind l ≠ [] := ind_ne.2 hl
    simp [F28s, hid, accV_cons h3, h1, h2, bytesOf_ind, h3]
    exact andI_intro (by omega) (by simp [F28q, h2, bytesOf_ind])
end Go.Proofs.Ytgahmpfpnclefaa.Lt
