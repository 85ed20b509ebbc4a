/- Arguments opened: what a row's proof hands to the walks. -/
import Derived.Test.YtinkookmjnflhaaBase
import Derived.ProofKit
import Derived.OpenShut
import Derived.ShutString
import Derived.SizedLaws
import Derived.SliceStrings
import Derived.Lib.SmallJoins
import Derived.Deep.Slices
import Derived.Deep.Fields
namespace Go.Proofs.Ytinkookmjnflhaa
open Go.ChangeShapes Go.WideShapes Go.ChangeAt Go.RowKit
theorem size_of_toList (s : ByteArray) : s.data.toList.length = s.size := by rw [Array.length_toList]; rfl

/-- Each string, slice and map of a reading is within the form's reach. -/
def Sized {H : Type} (P : Program) (t : TypeId) (d : DataW H) : Prop := ∀ n ∈ d.weights P t, n ≤ reachBytes
section
variable {H : Type} {P : Program}
theorem sized_arg {ts : List TypeId} {ds : List (DataW H)} (h : (DataW.weightsEach P ts ds).all (· ≤ reachBytes) = true) {j : Nat} {t : TypeId} {d : DataW H} (ht : ts[j]? = some t) (hd : ds[j]? = some d) : Sized P t d := by
  intro n hn
  have := List.all_eq_true.1 h n (DataW.weights_mem_each ht hd n hn)
  simpa using this
theorem Sized.string {t : TypeId} {bytes : List UInt8} (h : Sized (H := H) P t (.lit (.string bytes))) : bytes.length ≤ 140737488351232 := by
  have := h bytes.length (by simp [DataW.weights])
  simpa [reachBytes] using this
theorem mem_weightsAll {e : TypeId} : ∀ {l : List (DataW H)} {d : DataW H}, d ∈ l → ∀ n ∈ d.weights P e, n ∈ DataW.weightsAll P e l
  | x :: r, d, hd, n, hn => by
    simp only [DataW.weightsAll, List.mem_append]
    rcases List.mem_cons.1 hd with rfl | hd
    · exact .inl hn
    · exact .inr (mem_weightsAll hd n hn)
theorem Sized.slice {t e : TypeId} {elems spare : List (DataW H)} (h : Sized P t (.slice elems spare)) (hu : P.underlying t = some (.slice e)) :
    (elems.length + spare.length) * P.bytesOf e ≤ 140737488351232 ∧ (∀ d ∈ elems, Sized P e d) ∧ ∀ d ∈ spare, Sized P e d := by
  refine ⟨?_, fun d hd n hn => h n ?_, fun d hd n hn => h n ?_⟩
  · have := h ((elems.length + spare.length) * P.bytesOf e) (by simp [DataW.weights, hu])
    simpa [reachBytes] using this
  · simp only [DataW.weights, hu, List.mem_cons, List.mem_append]
    exact .inr (.inl (mem_weightsAll hd n hn))
  · simp only [DataW.weights, hu, List.mem_cons, List.mem_append]
    exact .inr (.inr (mem_weightsAll hd n hn))
theorem Sized.field {t : TypeId} {fs : Array Field} {parts : List (DataW H)} (h : Sized P t (.agg parts)) (hu : P.underlying t = some (.struct fs)) {j : Nat} {f : Field} {d : DataW H} (hf : fs[j]? = some f) (hd : parts[j]? = some d) : Sized P f.type d := by
  intro n hn
  refine h n ?_
  simp only [DataW.weights, hu]
  exact DataW.weights_mem_each (j := j) (by simp [hf]) hd n hn
end

theorem add_none' (b off j : Nat) : (⟨b, off, none⟩ : Addr).add j = ⟨b, off + j, none⟩ := by unfold Addr.add; split <;> simp_all
section
variable {H : Type} {enc : TypeId × Value → H} {P : Program} {w : World} {base : Nat}
/-- A slice of texts that came in. -/
theorem open_texts {r : Reach} {b0 : Nat} {t e : TypeId} (ht : P.underlying t = some (.slice e)) (he : P.underlying e = some .string) (hc : P.cellsOf e = 1) (hby : P.bytesOf e = 16) {v : Value} {d : DataW H} {p : List MemPlace}
    (hs : Sized P t d) (hv : Value.okWide P w r b0 t v) (h : DataW.Trod enc P w base (fun _ => true) true t v d p) :
    ∃ (A : Option Addr) (c : Nat) (ss : List ByteArray), v = .slice A ss.length c ∧ TextsAt w A ss ∧ (∀ s ∈ ss, s.size ≤ 140737488351232) ∧ ss.length * 16 ≤ 140737488351232 ∧
      ((d = .nil ∧ ss = []) ∨ ∃ more, d = .slice (strs ss) more) := by
  obtain ⟨a0, len0, cap0, rfl⟩ := okWide_slice ht hv
  obtain ⟨fuel, hf⟩ := h
  rcases open_strings ht he hc hf with ⟨hcs, hx⟩ | ⟨a, len, cap, ss, hcs, _, hl, hm, hz, hx, hcell, _⟩
  · simp [Value.cells] at hcs
    obtain ⟨rfl, rfl, rfl⟩ := hcs
    simp only [Prod.mk.injEq] at hx
    exact ⟨none, 0, [], rfl, ⟨by simp, by simp, by simp⟩, by simp, by simp, .inl ⟨hx.1, rfl⟩⟩
  · simp [Value.cells] at hcs
    obtain ⟨rfl, rfl, rfl⟩ := hcs
    simp only [Prod.mk.injEq] at hx
    obtain ⟨rfl, _⟩ := hx
    simp only [if_true] at hz
    have hlen : (ss.take len0).length = len0 := by rw [List.length_take]; omega
    obtain ⟨s1, s2, _⟩ := hs.slice ht
    rw [hby] at s1
    simp only [strs, List.length_map, List.length_take, List.length_drop] at s1
    have hel : ∀ s ∈ ss.take len0, s.size ≤ 140737488351232 := fun s hs' => by
      have := (s2 (.lit (.string s.data.toList)) (List.mem_map.2 ⟨s, hs', rfl⟩)).string
      rwa [size_of_toList] at this
    refine ⟨some a, cap0, ss.take len0, by rw [hlen], ⟨by omega, fun s hs' => by have := hel s hs'; omega, fun _ => ⟨a, rfl, fun j hj => ?_⟩⟩, hel, by omega, .inr ⟨_, rfl⟩⟩
    rw [hcell j (by omega)]
    rw [List.getElem_take, List.getD_eq_getElem?_getD, List.getElem?_eq_getElem (by omega)]
    rfl
theorem field_int {t : TypeId} {k : IntKind} {v : Value} {y : DataW H × List MemPlace} {n : Nat} {spare : Nat → Bool} {held : Bool} (ht : P.underlying t = some (.int k)) (h : DataW.trod enc P w base spare held n t [v] = some y) :
    ∃ a, v = .int k a ∧ (Lit.int k a).wf = true ∧ y = (.lit (.int k a), []) := by
  obtain ⟨a, hcs, hy, hw⟩ := DataW.trod_int ht h
  exact ⟨a, by simpa using hcs, hw, hy⟩
theorem field_bool {t : TypeId} {v : Value} {y : DataW H × List MemPlace} {n : Nat} {spare : Nat → Bool} {held : Bool} (ht : P.underlying t = some .bool) (h : DataW.trod enc P w base spare held n t [v] = some y) :
    ∃ a, v = .bool a ∧ y = (.lit (.bool a), []) := by
  obtain ⟨a, hcs, hy⟩ := DataW.trod_bool ht h
  exact ⟨a, by simpa using hcs, hy⟩
theorem field_string {t : TypeId} {v : Value} {y : DataW H × List MemPlace} {n : Nat} {spare : Nat → Bool} {held : Bool} (ht : P.underlying t = some .string) (h : DataW.trod enc P w base spare held n t [v] = some y) :
    ∃ a : ByteArray, v = .string a ∧ y = (.lit (.string a.data.toList), []) := by
  obtain ⟨a, hcs, hy, _⟩ := DataW.trod_string ht h
  exact ⟨a, by simpa using hcs, hy⟩
theorem Sized.str {t : TypeId} {s : ByteArray} (h : Sized (H := H) P t (.lit (.string s.data.toList))) : s.size ≤ 140737488351232 := by
  have := h.string
  rwa [size_of_toList] at this
/-- A slice that came in, whatever its elements: of one reading each ('dat'), of so many cells each ('cells'). -/
theorem open_elems {α : Type} [Inhabited α] {r : Reach} {b0 : Nat} {t e : TypeId} {sz : Nat} (cells : α → List Value) (dat : α → DataW H) (good : α → Prop) (ht : P.underlying t = some (.slice e)) (hC : P.cellsOf e = sz) (hz : 0 < sz)
    (hel : ∀ n cs' x, DataW.trod enc P w base (fun _ => true) true n e cs' = some x → cs'.length = sz → ∃ y, cs' = cells y ∧ x.1 = dat y ∧ good y)
    {v : Value} {d : DataW H} {p : List MemPlace} (hs : Sized P t d) (hv : Value.okWide P w r b0 t v) (h : DataW.Trod enc P w base (fun _ => true) true t v d p) :
    ∃ (A : Option Addr) (c : Nat) (ys : List α), v = .slice A ys.length c ∧ ys.length ≤ 9223372036854775807 ∧ ys.length * P.bytesOf e ≤ 140737488351232 ∧ (∀ y ∈ ys, good y ∧ Sized P e (dat y)) ∧
      (0 < ys.length → ∃ b off, A = some ⟨b, off, none⟩ ∧ ∀ j (h : j < ys.length) i, i < sz → w.cell? ⟨b, off + (j * sz + i), none⟩ = (cells ys[j])[i]?) ∧
      ((d = .nil ∧ ys = []) ∨ ∃ more, d = .slice (ys.map dat) more) := by
  obtain ⟨a0, len0, cap0, rfl⟩ := okWide_slice ht hv
  obtain ⟨fuel, hf⟩ := h
  rcases Go.Deep.open_slice ht hf with ⟨hcs, hx⟩ | ⟨a, len, cap, m, n, D, Pl, hcs, hb, hl, hm, hmm, hx, hi⟩
  · simp [Value.cells] at hcs
    obtain ⟨rfl, rfl, rfl⟩ := hcs
    simp only [Prod.mk.injEq] at hx
    exact ⟨none, 0, [], rfl, by simp, by simp, by simp, by simp, .inl ⟨hx.1, rfl⟩⟩
  · simp [Value.cells] at hcs
    obtain ⟨rfl, rfl, rfl⟩ := hcs
    simp only [Prod.mk.injEq] at hx
    obtain ⟨rfl, _⟩ := hx
    simp only [if_true] at hmm
    subst hmm
    have each : ∀ j, j < len0 → ∃ y : α, D j = dat y ∧ good y ∧ ∀ i, i < sz → w.cell? (a.add (j * sz + i)) = (cells y)[i]? := fun j hj => by
      obtain ⟨cs', hc, htr⟩ := hi j (by omega)
      rw [hC] at hc
      obtain ⟨_, hcl, hat⟩ := World.cells?_some hc
      obtain ⟨y, rfl, hy, hg⟩ := hel n cs' _ htr hcl
      exact ⟨y, hy, hg, fun i hi => by rw [← Go.Deep.add_add]; exact hat i hi⟩
    obtain ⟨F, hF⟩ := Go.Deep.choose_lt each
    have hle : ((List.range len0).map F).length = len0 := by simp
    have hD : (List.range len0).map D = ((List.range len0).map F).map dat := by
      rw [List.map_map]
      exact List.map_congr_left fun j hj => (hF j (by simpa using hj)).1
    obtain ⟨s1, s2, _⟩ := hs.slice ht
    simp only [List.length_map, List.length_range] at s1
    refine ⟨some a, _, (List.range len0).map F, by rw [hle], by rw [hle]; simp only [maxLen] at hm; omega, ?_, ?_, ?_, .inr ⟨_, by rw [hD]⟩⟩
    · rw [hle]
      exact Nat.le_trans (Nat.mul_le_mul_right _ (by omega)) s1
    · intro y hy
      obtain ⟨j, hj, rfl⟩ := List.mem_map.1 hy
      have hj' : j < len0 := by simpa using hj
      refine ⟨(hF j hj').2.1, ?_⟩
      have := s2 (D j) (List.mem_map.2 ⟨j, hj, rfl⟩)
      rwa [(hF j hj').1] at this
    · intro hpos
      rw [hle] at hpos
      obtain ⟨b, off, spot⟩ := a
      have c0 := (hF 0 hpos).2.2 0 hz
      obtain ⟨cs', hc, htr⟩ := hi 0 (by omega)
      rw [hC] at hc
      obtain ⟨_, hcl, hat⟩ := World.cells?_some hc
      have h00 := hat 0 hz
      rw [List.getElem?_eq_getElem (by omega)] at h00
      have hspot : spot = none := by
        have := World.cell?_spot h00
        simpa [Addr.add] using this
      subst hspot
      refine ⟨b, off, rfl, fun j hj i hi => ?_⟩
      have hj' : j < len0 := by rw [hle] at hj; exact hj
      have := (hF j hj').2.2 i hi
      rw [add_none'] at this
      rw [this]
      simp
theorem el_int {k : IntKind} {e : TypeId} (he : P.underlying e = some (.int k)) : ∀ n cs' x, DataW.trod enc P w base (fun _ => true) true n e cs' = some x → cs'.length = 1 → ∃ y : Int, cs' = [Value.int k y] ∧ x.1 = .lit (.int k y) ∧ (Lit.int k y).wf = true := fun n cs' x h _ => by
  obtain ⟨a, hcs, hy, hw⟩ := DataW.trod_int he h
  exact ⟨a, hcs, by rw [hy], hw⟩
theorem el_bool {e : TypeId} (he : P.underlying e = some .bool) : ∀ n cs' x, DataW.trod enc P w base (fun _ => true) true n e cs' = some x → cs'.length = 1 → ∃ y : Bool, cs' = [Value.bool y] ∧ x.1 = .lit (.bool y) ∧ True := fun n cs' x h _ => by
  obtain ⟨a, hcs, hy⟩ := DataW.trod_bool he h
  exact ⟨a, hcs, by rw [hy], trivial⟩
end
end Go.Proofs.Ytinkookmjnflhaa
