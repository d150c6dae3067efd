/- append onto a row of the call's own, from a source that may be nil. -/
import Derived.Test.YtkofjejdgdhapaaBase
import Derived.Maps.AppendAt
import Derived.Deep.AppendLies
import Derived.RegionTactic
import Derived.OwnWalk
namespace Go.Proofs.Ytkofjejdgdhapaa
open Go.RowKit

/-- What an append is handed: m elements, these cells. -/
def Src (w : World) (size : Nat) (A : Option Addr) (m : Nat) (news : List Value) : Prop :=
  news.length = m * size ∧ (A = none → m = 0) ∧ ∀ ad, A = some ad → ∀ j u, news[j]? = some u → w.cell? (ad.add j) = some u
theorem Src.mono {w w' : World} {size m : Nat} {A : Option Addr} {news : List Value} (hk : CK w w') (h : Src w size A m news) : Src w' size A m news :=
  ⟨h.1, h.2.1, fun ad e j u hu => hk _ _ (h.2.2 ad e j u hu)⟩
theorem src_of_row {α : Type} {A : Rd α} {w : World} {a : Option Addr} {l : List α} (cells : α → List Value) (h : RowAt A w a l) (hcs : ∀ x cs, A.R w cs x → cs = cells x) : Src w A.n a l.length (l.flatMap cells) := by
  have hlen : (l.flatMap cells).length = l.length * A.n := by
    have : ∀ x ∈ l, (cells x).length = A.n := fun x hx => by
      obtain ⟨cs, hR⟩ := h.all hx
      rw [← hcs x cs hR, A.len hR]
    clear h
    induction l with
    | nil => simp
    | cons x l ih =>
      rw [List.flatMap_cons, List.length_append, this x (by simp), ih (fun y hy => this y (by simp [hy])), List.length_cons, Nat.succ_mul]
      omega
  refine ⟨hlen, fun e => ?_, fun ad e j u hu => ?_⟩
  · rcases Nat.eq_zero_or_pos l.length with h0 | h0
    · exact h0
    · obtain ⟨b, off, h1⟩ := h.ne h0
      rw [h1] at e; cases e
  · have hj : j < l.length * A.n := by rw [← hlen]; exact (List.getElem?_eq_some_iff.1 hu).1
    have hn : 0 < A.n := by
      rcases Nat.eq_zero_or_pos A.n with h0 | h0
      · rw [h0] at hj; omega
      · exact h0
    have hi : j / A.n < l.length := Nat.div_lt_of_lt_mul (by rw [Nat.mul_comm]; exact hj)
    obtain ⟨b, off, cs, h1, h2, h3⟩ := h.get (List.getElem?_eq_getElem hi)
    rw [h1] at e
    obtain rfl := Option.some.inj e
    have hcx := hcs _ _ h3
    have hget : cs[j % A.n]? = some u := by
      rw [hcx]
      have key : ∀ (l : List α) (i : Nat) (x : α), (∀ y ∈ l, (cells y).length = A.n) → l[i]? = some x → ∀ k, k < A.n → (l.flatMap cells)[i * A.n + k]? = (cells x)[k]? := by
        intro l
        induction l with
        | nil => intro i x _ hx; simp at hx
        | cons y l ih =>
          intro i x hall hx k hk
          rw [List.flatMap_cons]
          cases i with
          | zero =>
            simp at hx; subst hx
            rw [List.getElem?_append_left (by rw [hall y (by simp)]; omega)]
            simp
          | succ i =>
            rw [List.getElem?_append_right (by rw [hall y (by simp), Nat.succ_mul]; omega), hall y (by simp), show (i + 1) * A.n + k - A.n = i * A.n + k by rw [Nat.succ_mul]; omega]
            exact ih i x (fun z hz => hall z (by simp [hz])) (by simpa using hx) k hk
      have hall : ∀ y ∈ l, (cells y).length = A.n := fun y hy => by
        obtain ⟨cs, hR⟩ := h.all hy
        rw [← hcs y cs hR, A.len hR]
      have := key l (j / A.n) _ hall (List.getElem?_eq_getElem hi) (j % A.n) (Nat.mod_lt _ hn)
      rw [← this, Nat.mul_comm, Nat.div_add_mod]
      exact hu
    have hc := h2.get _ _ hget
    rw [show off + j / A.n * A.n + (0 + j % A.n) = off + j by have := Nat.div_add_mod j A.n; rw [Nat.mul_comm] at this; omega] at hc
    have e2 : (⟨b, off, none⟩ : Addr).add j = ⟨b, off + j, none⟩ := by
      unfold Addr.add
      by_cases h : j = 0 <;> simp [h]
    rw [e2]; exact hc

section
variable {P : Program} (w : World)
theorem run_app (base : Nat) (t ty e : TypeId) (i : TypeInfo) (z : Value) (size bytes : Nat) (ht : P.underlying t = some (.slice e)) (hi : P.info? e = some i) (hz : i.zero = some z)
    (hsize : i.size = size) (hby : i.bytes = bytes) (hzs : z.cells.size = size) (hsz : 0 < size)
    (v : Value) (n : Nat) (xs : List Value) (hown : w.ownsRow base e size v n xs)
    (A : Option Addr) (m c : Nat) (news : List Value) (hr : Src w size A m news) (h1 : ∀ u ∈ news, u.oneCell' = true)
    (h63 : n + m ≤ maxLen) (hbytes : (n + m) * bytes ≤ 140737488355328) (hbase : base ≤ w.heap.size) :
    ∃ v' w', (Builtin.append_ #[t, t] ty #[v, .slice A m c]).run P w = .ok v' w' ∧ w'.ownsRow base e size v' (n + m) (xs ++ news) ∧ w.grownBy w' v.ownBlock ∧
      (v'.ownBlock = v.ownBlock ∨ v'.ownBlock = some w.heap.size) := by
  cases A with
  | none =>
    obtain rfl := hr.2.1 rfl
    obtain rfl : news = [] := List.eq_nil_of_length_eq_zero (by simpa using hr.1)
    refine ⟨v, w, ?_, by simpa using hown, World.grownBy.refl w _, .inl rfl⟩
    rcases hown.2 with ⟨rfl, rfl⟩ | ⟨g, cap, cur, rfl, _, _, hnc, _⟩
    · simp [Builtin.append_, run_underlying ht, sizeOf, typeInfo, hi, Builtin.lenOf, Builtin.firstCells]
    · simp [Builtin.append_, run_underlying ht, sizeOf, typeInfo, hi, Builtin.lenOf, Builtin.firstCells, hnc, storeCells]
  | some ad =>
    obtain ⟨v', w', hrun, h2, h3, _, h5⟩ := run_append_own_at (P := P) w base t ty e i z size bytes ht hi hz hsize hby hzs hsz v n xs hown ad m c news hr.1 (hr.2.2 ad rfl) h1 h63 hbytes hbase
    exact ⟨v', w', hrun, h2, h3, h5⟩
theorem wp_app {o : Oper} {a : Act} {K : Act → World → Prop} {Q : Exit → Act → World → Prop} (s x : Operand) (t : TypeId)
    (ho : o.op = .call { callee := .builtin .append, args := #[s, x], argTypes := #[t, t] })
    (base : Nat) (e : TypeId) (i : TypeInfo) (z : Value) (size bytes : Nat) (ht : P.underlying t = some (.slice e)) (hi : P.info? e = some i) (hz : i.zero = some z)
    (hsize : i.size = size) (hby : i.bytes = bytes) (hzs : z.cells.size = size) (hsz : 0 < size)
    (v : Value) (n : Nat) (xs : List Value) (hs : a.eval s = v) (hown : w.ownsRow base e size v n xs)
    (A : Option Addr) (m c : Nat) (news : List Value) (hx : a.eval x = .slice A m c) (hr : Src w size A m news) (h1 : ∀ u ∈ news, u.oneCell' = true)
    (h63 : n + m ≤ maxLen) (hbytes : (n + m) * bytes ≤ 140737488355328) (hbase : base ≤ w.heap.size)
    (h : ∀ v' w', w'.ownsRow base e size v' (n + m) (xs ++ news) → w.grownBy w' v.ownBlock → (v'.ownBlock = v.ownBlock ∨ v'.ownBlock = some w.heap.size) → K (a.put o.dst v') w') : o.wp P a w K Q := by
  obtain ⟨v', w', hrun, h2, h3, h4⟩ := run_app (P := P) w base t o.type e i z size bytes ht hi hz hsize hby hzs hsz v n xs hown A m c news hr h1 h63 hbytes hbase
  unfold Oper.wp execOp
  simp only [ho, resolve, invoke, builtin, Sem.run_bind, Sem.run_pure, Result.andThen_ok, List.map_toArray, List.map_cons, List.map_nil, hs, hx, hrun]
  exact h v' w' h2 h3 h4
theorem wpList_app {ops : Array Oper} {rest : List Oper} {o : Oper} {a : Act} {Q : Exit → Act → World → Prop} (hgd : o.guard = none) (s x : Operand) (t : TypeId)
    (ho : o.op = .call { callee := .builtin .append, args := #[s, x], argTypes := #[t, t] })
    (base : Nat) (e : TypeId) (i : TypeInfo) (z : Value) (size bytes : Nat) (ht : P.underlying t = some (.slice e)) (hi : P.info? e = some i) (hz : i.zero = some z)
    (hsize : i.size = size) (hby : i.bytes = bytes) (hzs : z.cells.size = size) (hsz : 0 < size)
    (v : Value) (n : Nat) (xs : List Value) (hs : a.eval s = v) (hown : w.ownsRow base e size v n xs)
    (A : Option Addr) (m c : Nat) (news : List Value) (hx : a.eval x = .slice A m c) (hr : Src w size A m news) (h1 : ∀ u ∈ news, u.oneCell' = true)
    (h63 : n + m ≤ maxLen) (hbytes : (n + m) * bytes ≤ 140737488355328) (hbase : base ≤ w.heap.size)
    (h : ∀ v' w', w'.ownsRow base e size v' (n + m) (xs ++ news) → w.grownBy w' v.ownBlock → (v'.ownBlock = v.ownBlock ∨ v'.ownBlock = some w.heap.size) → wpList P ops Q rest (a.put o.dst v') w') : wpList P ops Q (o :: rest) a w :=
  wpList_plain hgd fun _ hK => wp_app w s x t ho base e i z size bytes ht hi hz hsize hby hzs hsz v n xs hs hown A m c news hx hr h1 h63 hbytes hbase fun v' w' h2 h3 h4 => hK _ _ (h v' w' h2 h3 h4)
theorem step_app {ops : Array Oper} {o : Oper} {a : Act} {K : Act → World → Prop} {Q : Exit → Act → World → Prop} {E : Prop} (hgd : o.guard = none) (s x : Operand) (t : TypeId)
    (ho : o.op = .call { callee := .builtin .append, args := #[s, x], argTypes := #[t, t] })
    (base : Nat) (e : TypeId) (i : TypeInfo) (z : Value) (size bytes : Nat) (ht : P.underlying t = some (.slice e)) (hi : P.info? e = some i) (hz : i.zero = some z)
    (hsize : i.size = size) (hby : i.bytes = bytes) (hzs : z.cells.size = size) (hsz : 0 < size)
    (v : Value) (n : Nat) (xs : List Value) (hs : a.eval s = v) (hown : w.ownsRow base e size v n xs)
    (A : Option Addr) (m c : Nat) (news : List Value) (hx : a.eval x = .slice A m c) (hr : Src w size A m news) (h1 : ∀ u ∈ news, u.oneCell' = true)
    (h63 : n + m ≤ maxLen) (hbytes : (n + m) * bytes ≤ 140737488355328) (hbase : base ≤ w.heap.size)
    (h : ∀ v' w', w'.ownsRow base e size v' (n + m) (xs ++ news) → w.grownBy w' v.ownBlock → (v'.ownBlock = v.ownBlock ∨ v'.ownBlock = some w.heap.size) → K (a.put o.dst v') w') :
    if Region.wanted o (yielded ops a.tmps) = true then Oper.wp P o a w K Q else E := by
  have hw : Region.wanted o (yielded ops a.tmps) = true := by simp [Region.wanted, hgd]
  rw [if_pos hw]
  exact wp_app w s x t ho base e i z size bytes ht hi hz hsize hby hzs hsz v n xs hs hown A m c news hx hr h1 h63 hbytes hbase h
end
end Go.Proofs.Ytkofjejdgdhapaa
