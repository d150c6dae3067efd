/- Readings of Go's data as plain Lean values, and small facts on the model's memory that the walks share. -/
import Derived.WalkKit
import Derived.Deep.Slices
import Derived.OpenShut
import Derived.ShutString
import Derived.Lib.Hide
import Derived.Deep.LoopGhost
import Derived.Laws.EntriesVeiled
namespace Go.Proofs.Ytkofjejdgdhapaa
open Go.RowKit

/-! ### Blocks and cells -/
theorem bcell {W w1 : World} (hb : Below W.heap.size W w1) : (∀ b o, b < W.heap.size → w1.cell? ⟨b, o, none⟩ = W.cell? ⟨b, o, none⟩) ∧ (∀ b o, b < W.heap.size → w1.frozen? ⟨b, o, none⟩ = W.frozen? ⟨b, o, none⟩) :=
  ⟨fun b o h => hb.cell (p := ⟨b, o, none⟩) h, fun b o h => hb.frozen (p := ⟨b, o, none⟩) h⟩
theorem cell_of {w : World} {b o : Nat} {cs : Array Value} {t : TypeId} {fr : Nat × Nat} {v : Value} (h : w.heap[b]? = some (.cells cs t fr)) (hv : cs[o]? = some v) : w.cell? ⟨b, o, none⟩ = some v := by
  simp [World.cell?, h, hv]
/-- The cells of block b from o on hold these. -/
def CellsAt (w : World) (b : Nat) : Nat → List Value → Prop
  | _, [] => True
  | o, v :: vs => w.cell? ⟨b, o, none⟩ = some v ∧ CellsAt w b (o + 1) vs
theorem cellsAt_of {w : World} {b : Nat} {t : TypeId} {fr : Nat × Nat} {l : List Value} (h : w.heap[b]? = some (.cells l.toArray t fr)) : ∀ (vs : List Value) (o : Nat), l.drop o = vs → CellsAt w b o vs
  | [], _, _ => trivial
  | v :: vs, o, e => by
    have h1 : l[o]? = some v := by
      have := congrArg (·[0]?) e
      simpa using this
    refine ⟨cell_of h (by simpa using h1), cellsAt_of h vs (o + 1) ?_⟩
    rw [← List.drop_drop, e]; rfl
theorem cells_all {w : World} {b : Nat} {t : TypeId} {fr : Nat × Nat} {l : List Value} (h : w.heap[b]? = some (.cells l.toArray t fr)) : CellsAt w b 0 l := cellsAt_of h l 0 rfl
theorem size_of {w : World} {b : Nat} {x : Obj} (h : w.heap[b]? = some x) : b < w.heap.size := by
  rcases Nat.lt_or_ge b w.heap.size with h1 | h1
  · exact h1
  · simp [Array.getElem?_eq_none h1] at h
theorem cell_size {w : World} {a : Addr} {v : Value} (h : w.cell? a = some v) : a.block < w.heap.size := by
  rcases Nat.lt_or_ge a.block w.heap.size with h1 | h1
  · exact h1
  · simp [World.cell?, Array.getElem?_eq_none h1] at h
theorem blk_alloc {w : World} {b : Nat} {x : Obj} (h : w.heap[b]? = some x) (o : Obj) : (w.alloc o).heap[b]? = some x := by
  rw [Below.heap_alloc _ _ _ (size_of h)]; exact h
theorem blk_new (w : World) (o : Obj) : (w.alloc o).heap[w.heap.size]? = some o := by
  show (w.heap.push o)[w.heap.size]? = _
  rw [Array.getElem?_push, if_pos rfl]
theorem blk_new' (w : World) (n : Nat) (o : Obj) (h : n = w.heap.size) : (w.alloc o).heap[n]? = some o := by
  subst h; exact blk_new w o
theorem blk_below {B : Nat} {w w1 : World} {b : Nat} {x : Obj} (hb : Below B w w1) (h : w.heap[b]? = some x) (hB : b < B) : w1.heap[b]? = some x := by
  rw [hb.block b hB]; exact h
/-- What was in a cell is there yet. -/
def CK (w w' : World) : Prop := ∀ a v, w.cell? a = some v → w'.cell? a = some v
theorem CK.refl (w : World) : CK w w := fun _ _ h => h
theorem CK.trans {a b c : World} (h : CK a b) (k : CK b c) : CK a c := fun x v hx => k x v (h x v hx)
theorem CK.of_below {w w' : World} (h : Below w.heap.size w w') : CK w w' := fun a v ha => by
  rw [h.cell (cell_size ha)]; exact ha

theorem grown_below {w w' : World} (h : Below w.heap.size w w') : w.grownBy w' none := ⟨h.os, h.tape, h.output, h.size, fun k hk _ => h.block k hk⟩
theorem owns_below {w w' : World} {base e size n : Nat} {v : Value} {xs : List Value} (h : w.ownsRow base e size v n xs) (hb : Below w.heap.size w w') : w'.ownsRow base e size v n xs := by
  cases hv : v.ownBlock with
  | none => exact h.kept (grown_below hb) (.inl hv)
  | some k => exact h.kept (grown_below hb) (.inr (by rw [hv]; simp))
theorem blk_below' {w w1 : World} {b : Nat} {x : Obj} (hb : Below w.heap.size w w1) (h : w.heap[b]? = some x) : w1.heap[b]? = some x := blk_below hb h (size_of h)
theorem blk_grown {w w1 : World} {b : Nat} {x : Obj} {row : Option Nat} (hg : w.grownBy w1 row) (h : w.heap[b]? = some x) (hne : some b ≠ row) : w1.heap[b]? = some x := by
  rw [hg.block b (size_of h) hne]; exact h

/-! ### Readings -/
structure Rd (α : Type) where
  n : Nat
  R : World → List Value → α → Prop
  len : ∀ {w cs x}, R w cs x → cs.length = n
  mono : ∀ {w w' cs x}, CK w w' → R w cs x → R w' cs x

def Rd.int (k : IntKind) : Rd Int := ⟨1, fun _ cs x => cs = [.int k x] ∧ (Lit.int k x).wf = true, fun h => by rw [h.1]; rfl, fun _ h => h⟩
def Rd.bool : Rd Bool := ⟨1, fun _ cs x => cs = [.bool x], fun h => by rw [h]; rfl, fun _ h => h⟩
def Rd.str : Rd ByteArray := ⟨1, fun _ cs x => cs = [.string x] ∧ x.size ≤ maxLen, fun h => by rw [h.1]; rfl, fun _ h => h⟩
def Rd.pair {α β : Type} (A : Rd α) (B : Rd β) : Rd (α × β) :=
  ⟨A.n + B.n, fun w cs x => ∃ c1 c2, cs = c1 ++ c2 ∧ A.R w c1 x.1 ∧ B.R w c2 x.2,
    fun ⟨c1, c2, h, h1, h2⟩ => by rw [h, List.length_append, A.len h1, B.len h2],
    fun hk ⟨c1, c2, h, h1, h2⟩ => ⟨c1, c2, h, A.mono hk h1, B.mono hk h2⟩⟩
def Rd.iso {α β : Type} (A : Rd α) (f : α → β) : Rd β :=
  ⟨A.n, fun w cs y => ∃ x, A.R w cs x ∧ y = f x, fun ⟨_, h, _⟩ => A.len h, fun hk ⟨x, h, e⟩ => ⟨x, A.mono hk h, e⟩⟩

/-- The cells of block b from 'at + j' on hold these. -/
def CellsOff (w : World) (b at_ : Nat) : Nat → List Value → Prop
  | _, [] => True
  | j, v :: vs => w.cell? ⟨b, at_ + j, none⟩ = some v ∧ CellsOff w b at_ (j + 1) vs
theorem CellsOff.mono {w w' : World} (hk : CK w w') {b at_ : Nat} : ∀ {vs : List Value} {j : Nat}, CellsOff w b at_ j vs → CellsOff w' b at_ j vs
  | [], _, _ => trivial
  | _ :: _, _, h => ⟨hk _ _ h.1, CellsOff.mono hk h.2⟩
theorem cellsOff_of {w : World} {b at_ : Nat} {l : List Value} (h : ∀ j v, l[j]? = some v → w.cell? ⟨b, at_ + j, none⟩ = some v) : ∀ (vs : List Value) (j : Nat), l.drop j = vs → CellsOff w b at_ j vs
  | [], _, _ => trivial
  | v :: vs, j, e => by
    have h1 : l[j]? = some v := by
      have := congrArg (·[0]?) e
      simpa using this
    refine ⟨h j v h1, cellsOff_of h vs (j + 1) ?_⟩
    rw [← List.drop_drop, e]; rfl
theorem CellsOff.get {w : World} {b at_ : Nat} : ∀ {l : List Value} {k : Nat}, CellsOff w b at_ k l → ∀ j v, l[j]? = some v → w.cell? ⟨b, at_ + (k + j), none⟩ = some v
  | [], _, _, j, v, hj => by simp at hj
  | u :: l, k, h, 0, v, hj => by
    simp at hj; subst hj; exact h.1
  | u :: l, k, h, j + 1, v, hj => by
    have := CellsOff.get h.2 j v (by simpa using hj)
    rw [show k + (j + 1) = k + 1 + j by omega]; exact this
/-- A row of the call's own, read. -/
theorem CellsOff.of_owns {w : World} {g off : Nat} {cur : Array Value} {e : TypeId} {fr : Nat × Nat} (h : w.heap[g]? = some (.cells cur e fr)) : ∀ (vs : List Value) (j : Nat), (∀ k v, vs[k]? = some v → cur[off + j + k]? = some v) → CellsOff w g off j vs
  | [], _, _ => trivial
  | v :: vs, j, hv => ⟨cell_of h (by simpa using hv 0 v rfl), CellsOff.of_owns h vs (j + 1) (fun k u hk => by have := hv (k + 1) u (by simpa using hk); rwa [show off + j + (k + 1) = off + (j + 1) + k by omega] at this)⟩

/-- A slice: where it begins, its room, what it holds. -/
structure Sl (α : Type) where
  a : Option Addr
  cap : Nat
  l : List α
def RowAt {α : Type} (A : Rd α) (w : World) (a : Option Addr) (l : List α) : Prop :=
  l = [] ∨ ∃ b off, a = some ⟨b, off, none⟩ ∧ ∀ i x, l[i]? = some x → ∃ cs, (∀ j v, cs[j]? = some v → w.cell? ⟨b, off + i * A.n + j, none⟩ = some v) ∧ A.R w cs x
theorem RowAt.mono {α : Type} {A : Rd α} {w w' : World} {a : Option Addr} {l : List α} (hk : CK w w') (h : RowAt A w a l) : RowAt A w' a l := by
  rcases h with h | ⟨b, off, h1, h2⟩
  · exact .inl h
  · refine .inr ⟨b, off, h1, fun i x hi => ?_⟩
    obtain ⟨cs, h3, h4⟩ := h2 i x hi
    exact ⟨cs, fun j v hj => hk _ _ (h3 j v hj), A.mono hk h4⟩
theorem RowAt.get {α : Type} {A : Rd α} {w : World} {a : Option Addr} {l : List α} (h : RowAt A w a l) {i : Nat} {x : α} (hi : l[i]? = some x) :
    ∃ b off cs, a = some ⟨b, off, none⟩ ∧ CellsOff w b (off + i * A.n) 0 cs ∧ A.R w cs x := by
  rcases h with rfl | ⟨b, off, h1, h2⟩
  · simp at hi
  · obtain ⟨cs, h3, h4⟩ := h2 i x hi
    exact ⟨b, off, cs, h1, cellsOff_of h3 cs 0 rfl, h4⟩
/-- A row that the call owns, read element by element. -/
theorem row_of_owns {α : Type} {A : Rd α} {w : World} {base e : Nat} {v : Value} {l : List α} (cells : α → List Value) (h : w.ownsRow base e A.n v l.length (l.flatMap cells))
    (hlen : ∀ x, (cells x).length = A.n) (hR : ∀ x, x ∈ l → A.R w (cells x) x) : ∃ a c, v = .slice a l.length c ∧ RowAt A w a l := by
  obtain ⟨_, h | ⟨g, cap, cur, rfl, _, hg, hn, _, hsz, hx⟩⟩ := h
  · obtain ⟨rfl, h0⟩ := h
    exact ⟨none, 0, by rw [h0], .inl (List.length_eq_zero_iff.1 h0)⟩
  · refine ⟨_, cap, rfl, .inr ⟨g, 0, rfl, fun i x hi => ⟨cells x, fun j u hj => ?_, hR x (List.mem_of_getElem? hi)⟩⟩⟩
    refine cell_of hg ?_
    have hil : i < l.length := (List.getElem?_eq_some_iff.1 hi).1
    have hjl : j < A.n := by rw [← hlen x]; exact (List.getElem?_eq_some_iff.1 hj).1
    have key : ∀ (l : List α) (i : Nat), l[i]? = some x → (l.flatMap cells)[i * A.n + j]? = some u := by
      intro l
      induction l with
      | nil => intro i hi; simp at hi
      | cons y l ih =>
        intro i hi
        rw [List.flatMap_cons]
        cases i with
        | zero =>
          simp at hi; subst hi
          rw [List.getElem?_append_left (by rw [hlen]; omega)]
          simpa using hj
        | succ i =>
          rw [List.getElem?_append_right (by rw [hlen, Nat.succ_mul]; omega), hlen, show (i + 1) * A.n + j - A.n = i * A.n + j by rw [Nat.succ_mul]; omega]
          exact ih i (by simpa using hi)
    have h1 := key l i hi
    rw [← hx] at h1
    have hlt : i * A.n + j < l.length * A.n := by
      have : (i + 1) * A.n ≤ l.length * A.n := Nat.mul_le_mul_right _ hil
      rw [Nat.succ_mul] at this
      omega
    rw [List.getElem?_take_of_lt hlt] at h1
    simpa using h1
theorem new_cells (w : World) (l : List Value) (t : TypeId) : ∀ (j : Nat) (u : Value), l[j]? = some u → (w.alloc (.cells l.toArray t)).cell? ((⟨w.heap.size, 0, none⟩ : Addr).add j) = some u := fun j u hj => by
  have e : (⟨w.heap.size, 0, none⟩ : Addr).add j = ⟨w.heap.size, j, none⟩ := by
    unfold Addr.add
    by_cases h : j = 0 <;> simp [h]
  rw [e]
  exact cell_of (blk_new _ _) (by simpa using hj)
theorem RowAt.all {α : Type} {A : Rd α} {w : World} {a : Option Addr} {l : List α} (h : RowAt A w a l) {x : α} (hx : x ∈ l) : ∃ cs, A.R w cs x := by
  obtain ⟨i, hi⟩ := List.mem_iff_getElem?.1 hx
  obtain ⟨_, _, cs, _, _, hR⟩ := h.get hi
  exact ⟨cs, hR⟩
theorem RowAt.ne {α : Type} {A : Rd α} {w : World} {a : Option Addr} {l : List α} (h : RowAt A w a l) (hl : 0 < l.length) : ∃ b off, a = some ⟨b, off, none⟩ := by
  obtain ⟨b, off, _, h1, _⟩ := h.get (List.getElem?_eq_getElem hl)
  exact ⟨b, off, h1⟩
def Rd.slice {α : Type} (A : Rd α) : Rd (Sl α) :=
  ⟨1, fun w cs x => cs = [.slice x.a x.l.length x.cap] ∧ x.l.length ≤ x.cap ∧ x.cap ≤ maxLen ∧ RowAt A w x.a x.l, fun h => by rw [h.1]; rfl,
    fun hk h => ⟨h.1, h.2.1, h.2.2.1, h.2.2.2.mono hk⟩⟩

section
variable {P : Program}
/-- Whatever reads as data of type t is read by A. -/
def Opens {α : Type} (P : Program) (t : TypeId) (A : Rd α) : Prop :=
  ∀ {H : Type} {enc : TypeId × Value → H} {w : World} {base : Nat} {spare : Nat → Bool} {held : Bool} {fuel : Nat} {cs : List Value} {x : DataW H × List MemPlace},
    DataW.trod enc P w base spare held fuel t cs = some x → ∃ v, A.R w cs v
theorem opens_int {t : TypeId} {k : IntKind} (ht : P.underlying t = some (.int k)) : Opens P t (Rd.int k) := fun h => by
  obtain ⟨n, e, _, hw⟩ := DataW.trod_int ht h
  exact ⟨n, e, hw⟩
theorem opens_bool {t : TypeId} (ht : P.underlying t = some .bool) : Opens P t Rd.bool := fun h => by
  obtain ⟨n, e, _⟩ := DataW.trod_bool ht h
  exact ⟨n, e⟩
theorem opens_str {t : TypeId} (ht : P.underlying t = some .string) : Opens P t Rd.str := fun h => by
  obtain ⟨n, e, _, hs⟩ := DataW.trod_string ht h
  exact ⟨n, e, hs⟩
theorem opens_iso {α β : Type} {t : TypeId} {A : Rd α} (h : Opens P t A) (f : α → β) : Opens P t (A.iso f) := fun hx => by
  obtain ⟨x, hx⟩ := h hx
  exact ⟨f x, x, hx, rfl⟩
theorem opens_slice {α : Type} {t e : TypeId} {A : Rd α} (ht : P.underlying t = some (.slice e)) (hc : P.cellsOf e = A.n) (hp : 0 < A.n) (h : Opens P e A) : Opens P t (Rd.slice A) := fun hx => by
  rename_i H enc w base spare held fuel cs x
  rcases Deep.open_slice ht hx with ⟨rfl, _⟩ | ⟨a, len, cap, m, n, D, Pl, rfl, _, hl, hm, hmm, _, hi⟩
  · exact ⟨⟨none, 0, []⟩, rfl, Nat.le_refl _, Nat.zero_le _, .inl rfl⟩
  · have hlen : len ≤ m := by rw [hmm]; split <;> omega
    have hall : ∀ i, i < len → ∃ v cs', w.cells? base (a.add (i * P.cellsOf e)) (P.cellsOf e) = some cs' ∧ A.R w cs' v := fun i hlt => by
      obtain ⟨cs', h1, h2⟩ := hi i (by omega)
      obtain ⟨v, hv⟩ := h h2
      exact ⟨v, cs', h1, hv⟩
    have hex : ∃ l : List α, l.length = len ∧ ∀ i x, l[i]? = some x → ∃ cs', w.cells? base (a.add (i * P.cellsOf e)) (P.cellsOf e) = some cs' ∧ A.R w cs' x := by
      clear hi hl hlen hmm hm
      rename_i hxx
      clear hxx hx
      induction len with
      | zero => exact ⟨[], rfl, fun i x hx => by simp at hx⟩
      | succ k ih =>
        obtain ⟨l, h1, h2⟩ := ih (fun i hlt => hall i (by omega))
        obtain ⟨v, hv⟩ := hall k (by omega)
        refine ⟨l ++ [v], by simp [h1], fun i x hx => ?_⟩
        rcases Nat.lt_or_ge i l.length with hlt | hge
        · rw [List.getElem?_append_left hlt] at hx
          exact h2 i x hx
        · rw [List.getElem?_append_right hge] at hx
          have : i = k := by
            have := (List.getElem?_eq_some_iff.1 hx).1
            simp at this
            omega
          subst this
          have e0 : i - l.length = 0 := by omega
          rw [e0] at hx
          simp at hx
          subst hx
          exact hv
    obtain ⟨l, hll, hlx⟩ := hex
    refine ⟨⟨some a, cap, l⟩, by simp only [hll], by simp only [hll]; exact hl, hm, ?_⟩
    rcases List.eq_nil_or_concat l with rfl | ⟨_, _, _⟩
    · exact .inl rfl
    · right
      have hpos : 0 < l.length := by rename_i hh; rw [hh]; simp
      obtain ⟨b, off, spot⟩ := a
      have hat : ∀ i cs' : _, ∀ x, l[i]? = some x → w.cells? base ((⟨b, off, spot⟩ : Addr).add (i * P.cellsOf e)) (P.cellsOf e) = some cs' → ∀ j v, cs'[j]? = some v → w.cell? (((⟨b, off, spot⟩ : Addr).add (i * P.cellsOf e)).add j) = some v := by
        intro i cs' x _ hcs j v hj
        obtain ⟨_, hcl, hat⟩ := World.cells?_some hcs
        have hjl : j < cs'.length := (List.getElem?_eq_some_iff.1 hj).1
        rw [hat j (by omega), hj]
      have hsp : spot = none := by
        obtain ⟨cs', h1, h2⟩ := hlx 0 _ (List.getElem?_eq_getElem hpos)
        have hl' := A.len h2
        have hj : cs'[0]? = some (cs'[0]'(by omega)) := List.getElem?_eq_getElem (by omega)
        have := hat 0 cs' _ (List.getElem?_eq_getElem hpos) h1 0 _ hj
        simpa [Addr.add] using World.cell?_spot this
      subst hsp
      refine ⟨b, off, rfl, fun i x hix => ?_⟩
      obtain ⟨cs', h1, h2⟩ := hlx i x hix
      refine ⟨cs', fun j v hj => ?_, h2⟩
      have := hat i cs' x hix h1 j v hj
      rw [hc] at this
      rw [← this]
      congr 1
      unfold Addr.add
      by_cases e1 : i * A.n = 0 <;> by_cases e2 : j = 0 <;> simp [e1, e2, Nat.add_assoc]

/-- The fields of a struct, one behind the other, from cell o on. -/
inductive FO (P : Program) : Nat → List Field → {α : Type} → Rd α → Prop
  | one {o : Nat} {f : Field} {α : Type} {A : Rd α} : f.offset = o → P.cellsOf f.type = A.n → Opens P f.type A → FO P o [f] A
  | cons {o : Nat} {f : Field} {l : List Field} {α β : Type} {A : Rd α} {B : Rd β} : f.offset = o → P.cellsOf f.type = A.n → Opens P f.type A → FO P (o + A.n) l B → FO P o (f :: l) (A.pair B)
theorem FO.opens {H : Type} {enc : TypeId × Value → H} {w : World} {base : Nat} {spare : Nat → Bool} {held : Bool} {n : Nat} {cs : List Value} {o : Nat} {l : List Field} {α : Type} {A : Rd α} (h : FO P o l A) :
    ∀ (xs : List (DataW H × List MemPlace)), xs.length = l.length → (∀ (i : Nat) (f : Field), l[i]? = some f → DataW.trod enc P w base spare held n f.type ((cs.drop f.offset).take (P.cellsOf f.type)) = xs[i]?) →
      cs.length = o + A.n → ∃ v, A.R w (cs.drop o) v := by
  induction h with
  | @one o f α A ho hc hA =>
    intro xs hl hx hcs
    match xs, hl with
    | [x], _ =>
      have h0 := hx 0 f rfl
      obtain ⟨v, hv⟩ := hA h0
      refine ⟨v, ?_⟩
      rw [ho, hc, List.take_of_length_le (by simp; omega)] at hv
      exact hv
  | @cons o f l α β A B ho hc hA _ ih =>
    intro xs hl hx hcs
    match xs, hl with
    | x :: xs, hl =>
      have h0 := hx 0 f rfl
      obtain ⟨v, hv⟩ := hA h0
      obtain ⟨u, hu⟩ := ih xs (by simpa using hl) (fun i f hf => hx (i + 1) f hf) (by rw [hcs]; simp only [Rd.pair]; omega)
      refine ⟨(v, u), _, _, ?_, hv, hu⟩
      rw [ho, hc, ← List.drop_drop, List.take_append_drop]
theorem opens_struct {t : TypeId} {fs : Array Field} {α : Type} {A : Rd α} (ht : P.underlying t = some (.struct fs)) (hc : P.cellsOf t = A.n) (h : FO P 0 fs.toList A) : Opens P t A := fun hx => by
  obtain ⟨xs, n, _, _, hlen, hxl, hf⟩ := DataW.trod_struct ht hx
  obtain ⟨v, hv⟩ := h.opens xs (by simpa using hxl) (fun i f hi => hf i f (by simpa using hi)) (by omega)
  exact ⟨v, by simpa using hv⟩
/-- An argument: its value's cells, read. -/
theorem arg_of {α : Type} {t : TypeId} {A : Rd α} (h : Opens P t A) {H : Type} {enc : TypeId × Value → H} {w : World} {base : Nat} {spare : Nat → Bool} {held : Bool} {v : Value} {d : DataW H} {ps : List MemPlace}
    (hd : DataW.Trod enc P w base spare held t v d ps) : ∃ x, A.R w v.cells.toList x := by
  obtain ⟨fuel, hf⟩ := hd
  exact h hf
theorem agg_of_cells {v : Value} {cs : List Value} (hv : ∃ c, v = .agg c) (h : v.cells.toList = cs) : v = .agg cs.toArray := by
  obtain ⟨c, rfl⟩ := hv
  simp only [Value.cells] at h
  subst h
  rfl
theorem cell_of_cells {v c : Value} (h : v.cells.toList = [c]) (hv : ∀ cs, v ≠ .agg cs) : v = c := by
  cases v <;> simp_all [Value.cells]
end
end Go.Proofs.Ytkofjejdgdhapaa
