/- Arguments opened: what a row's proof hands to the walks. -/
import Derived.Test.YtekadonopenljaaBase
import Derived.ProofKit
import Derived.OpenShut
import Derived.ShutString
import Derived.SizedLaws
import Derived.SliceStrings
import Derived.Lib.SmallJoins
namespace Go.Proofs.Ytekadonopenljaa
open Go.ChangeShapes Go.WideShapes Go.ChangeAt Go.RowKit
theorem size_of_toList (s : ByteArray) : s.data.toList.length = s.size := by rw [Array.length_toList]; rfl

/-- Each string, slice and map of a reading is within the form's reach. -/
def Sized {H : Type} (P : Program) (t : TypeId) (d : DataW H) : Prop := ∀ n ∈ d.weights P t, n ≤ reachBytes
section
variable {H : Type} {P : Program}
theorem sized_arg {ts : List TypeId} {ds : List (DataW H)} (h : (DataW.weightsEach P ts ds).all (· ≤ reachBytes) = true) {j : Nat} {t : TypeId} {d : DataW H} (ht : ts[j]? = some t) (hd : ds[j]? = some d) : Sized P t d := by
  intro n hn
  have := List.all_eq_true.1 h n (DataW.weights_mem_each ht hd n hn)
  simpa using this
theorem Sized.string {t : TypeId} {bytes : List UInt8} (h : Sized (H := H) P t (.lit (.string bytes))) : bytes.length ≤ 140737488351232 := by
  have := h bytes.length (by simp [DataW.weights])
  simpa [reachBytes] using this
theorem mem_weightsAll {e : TypeId} : ∀ {l : List (DataW H)} {d : DataW H}, d ∈ l → ∀ n ∈ d.weights P e, n ∈ DataW.weightsAll P e l
  | x :: r, d, hd, n, hn => by
    simp only [DataW.weightsAll, List.mem_append]
    rcases List.mem_cons.1 hd with rfl | hd
    · exact .inl hn
    · exact .inr (mem_weightsAll hd n hn)
theorem Sized.slice {t e : TypeId} {elems spare : List (DataW H)} (h : Sized P t (.slice elems spare)) (hu : P.underlying t = some (.slice e)) :
    (elems.length + spare.length) * P.bytesOf e ≤ 140737488351232 ∧ (∀ d ∈ elems, Sized P e d) ∧ ∀ d ∈ spare, Sized P e d := by
  refine ⟨?_, fun d hd n hn => h n ?_, fun d hd n hn => h n ?_⟩
  · have := h ((elems.length + spare.length) * P.bytesOf e) (by simp [DataW.weights, hu])
    simpa [reachBytes] using this
  · simp only [DataW.weights, hu, List.mem_cons, List.mem_append]
    exact .inr (.inl (mem_weightsAll hd n hn))
  · simp only [DataW.weights, hu, List.mem_cons, List.mem_append]
    exact .inr (.inr (mem_weightsAll hd n hn))
theorem Sized.field {t : TypeId} {fs : Array Field} {parts : List (DataW H)} (h : Sized P t (.agg parts)) (hu : P.underlying t = some (.struct fs)) {j : Nat} {f : Field} {d : DataW H} (hf : fs[j]? = some f) (hd : parts[j]? = some d) : Sized P f.type d := by
  intro n hn
  refine h n ?_
  simp only [DataW.weights, hu]
  exact DataW.weights_mem_each (j := j) (by simp [hf]) hd n hn
end

section
variable {H : Type} {enc : TypeId × Value → H} {P : Program} {w : World} {base : Nat}
/-- A slice of texts that came in. -/
theorem open_texts {r : Reach} {b0 : Nat} {t e : TypeId} (ht : P.underlying t = some (.slice e)) (he : P.underlying e = some .string) (hc : P.cellsOf e = 1) (hby : P.bytesOf e = 16) {v : Value} {d : DataW H} {p : List MemPlace}
    (hs : Sized P t d) (hv : Value.okWide P w r b0 t v) (h : DataW.Trod enc P w base (fun _ => true) true t v d p) :
    ∃ (A : Option Addr) (c : Nat) (ss : List ByteArray), v = .slice A ss.length c ∧ TextsAt w A ss ∧ (∀ s ∈ ss, s.size ≤ 140737488351232) ∧ ss.length * 16 ≤ 140737488351232 ∧
      ((d = .nil ∧ ss = []) ∨ ∃ more, d = .slice (strs ss) more) := by
  obtain ⟨a0, len0, cap0, rfl⟩ := okWide_slice ht hv
  obtain ⟨fuel, hf⟩ := h
  rcases open_strings ht he hc hf with ⟨hcs, hx⟩ | ⟨a, len, cap, ss, hcs, _, hl, hm, hz, hx, hcell, _⟩
  · simp [Value.cells] at hcs
    obtain ⟨rfl, rfl, rfl⟩ := hcs
    simp only [Prod.mk.injEq] at hx
    exact ⟨none, 0, [], rfl, ⟨by simp, by simp, by simp⟩, by simp, by simp, .inl ⟨hx.1, rfl⟩⟩
  · simp [Value.cells] at hcs
    obtain ⟨rfl, rfl, rfl⟩ := hcs
    simp only [Prod.mk.injEq] at hx
    obtain ⟨rfl, _⟩ := hx
    simp only [if_true] at hz
    have hlen : (ss.take len0).length = len0 := by rw [List.length_take]; omega
    obtain ⟨s1, s2, _⟩ := hs.slice ht
    rw [hby] at s1
    simp only [strs, List.length_map, List.length_take, List.length_drop] at s1
    have hel : ∀ s ∈ ss.take len0, s.size ≤ 140737488351232 := fun s hs' => by
      have := (s2 (.lit (.string s.data.toList)) (List.mem_map.2 ⟨s, hs', rfl⟩)).string
      rwa [size_of_toList] at this
    refine ⟨some a, cap0, ss.take len0, by rw [hlen], ⟨by omega, fun s hs' => by have := hel s hs'; omega, fun _ => ⟨a, rfl, fun j hj => ?_⟩⟩, hel, by omega, .inr ⟨_, rfl⟩⟩
    rw [hcell j (by omega)]
    rw [List.getElem_take, List.getD_eq_getElem?_getD, List.getElem?_eq_getElem (by omega)]
    rfl
theorem field_int {t : TypeId} {k : IntKind} {v : Value} {y : DataW H × List MemPlace} {n : Nat} {spare : Nat → Bool} {held : Bool} (ht : P.underlying t = some (.int k)) (h : DataW.trod enc P w base spare held n t [v] = some y) :
    ∃ a, v = .int k a ∧ (Lit.int k a).wf = true ∧ y = (.lit (.int k a), []) := by
  obtain ⟨a, hcs, hy, hw⟩ := DataW.trod_int ht h
  exact ⟨a, by simpa using hcs, hw, hy⟩
theorem field_bool {t : TypeId} {v : Value} {y : DataW H × List MemPlace} {n : Nat} {spare : Nat → Bool} {held : Bool} (ht : P.underlying t = some .bool) (h : DataW.trod enc P w base spare held n t [v] = some y) :
    ∃ a, v = .bool a ∧ y = (.lit (.bool a), []) := by
  obtain ⟨a, hcs, hy⟩ := DataW.trod_bool ht h
  exact ⟨a, by simpa using hcs, hy⟩
theorem field_string {t : TypeId} {v : Value} {y : DataW H × List MemPlace} {n : Nat} {spare : Nat → Bool} {held : Bool} (ht : P.underlying t = some .string) (h : DataW.trod enc P w base spare held n t [v] = some y) :
    ∃ a : ByteArray, v = .string a ∧ y = (.lit (.string a.data.toList), []) := by
  obtain ⟨a, hcs, hy, _⟩ := DataW.trod_string ht h
  exact ⟨a, by simpa using hcs, hy⟩
theorem Sized.str {t : TypeId} {s : ByteArray} (h : Sized (H := H) P t (.lit (.string s.data.toList))) : s.size ≤ 140737488351232 := by
  have := h.string
  rwa [size_of_toList] at this
end
end Go.Proofs.Ytekadonopenljaa
