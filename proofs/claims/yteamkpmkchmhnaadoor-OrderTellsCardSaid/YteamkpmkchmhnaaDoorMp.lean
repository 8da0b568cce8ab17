/- A map of whatever elements, as a function from its keys to values: look-up, store, delete, length, range. No program in sight. -/
import Derived.Test.YteamkpmkchmhnaaDoorBase
import Derived.Maps.RangeWalk
import Derived.Maps.StringElems
namespace Go.Proofs.YteamkpmkchmhnaaDoor
open Go.RowKit Go.WideMaps Go.Maps Go.WideElems Go.ChangeMaps Go.MapKept

def rawR : Value → Option (DataW Value × List MemPlace) := fun v => some (.held v, [])

section
variable {α β : Type} [DecidableEq α]
def upd (F : α → Option β) (a : α) (v : β) : α → Option β := fun x => if x = a then some v else F x
def del (F : α → Option β) (a : α) : α → Option β := fun x => if x = a then none else F x
theorem upd_same (F : α → Option β) (a : α) (v : β) : upd F a v a = some v := by simp [upd]
theorem upd_other (F : α → Option β) {a x : α} (v : β) (h : x ≠ a) : upd F a v x = F x := by simp [upd, h]
theorem del_same (F : α → Option β) (a : α) : del F a a = none := by simp [del]
theorem del_other (F : α → Option β) {a x : α} (h : x ≠ a) : del F a x = F x := by simp [del, h]
end

/-- A map's type, its keys (through ι), its elements' zero value. -/
structure MpT {α : Type} (P : Program) (t k e : TypeId) (ι : α → Value) (z : Value) : Prop where
  K : Keyed P k
  ht : P.underlying t = some (.map k e)
  hz : ∀ w, (zeroValue e).run P w = .ok z w
  inj : ∀ {a b}, ι a = ι b → a = b
  inv : ∀ {v kl}, keyOf P k v = some kl → ∃ a, v = ι a

section
variable {α : Type} {P : Program} {t k e : TypeId} {ι : α → Value} {z : Value} (T : MpT P t k e ι z)

/-- Block b is a map of at most n entries that holds F. -/
def Mp (w : World) (P : Program) (k : TypeId) (ι : α → Value) (b n : Nat) (F : α → Option Value) : Prop :=
  ∃ es clock, w.heap[b]? = some (.map es clock) ∧ Fit P k rawR es clock ∧ es.size ≤ n ∧
    (∀ x ∈ es.toList, ∃ a, x.key = ι a ∧ F a = some x.val) ∧ (∀ a v, F a = some v → ∃ x ∈ es.toList, x.key = ι a ∧ x.val = v)

variable {w w' : World} {b n : Nat} {F : α → Option Value}

theorem Mp.mono (h : Mp w P k ι b n F) {m : Nat} (hm : n ≤ m) : Mp w P k ι b m F := by
  obtain ⟨es, clock, h1, h2, h3, h4⟩ := h
  exact ⟨es, clock, h1, h2, by omega, h4⟩

theorem Mp.lt (h : Mp w P k ι b n F) : b < w.heap.size := by
  obtain ⟨es, clock, h1, _⟩ := h
  exact (Array.getElem?_eq_some_iff.1 h1).1

theorem Mp.kept {S : Nat → Prop} (h : Mp w P k ι b n F) (hk : Kept S w w') (hb : ¬ S b) : Mp w' P k ι b n F := by
  obtain ⟨es, clock, h1, h2⟩ := h
  exact ⟨es, clock, hk.heap h1 hb, h2⟩

theorem Mp.alloc (h : Mp w P k ι b n F) (o : Obj) : Mp (w.alloc o) P k ι b n F := h.kept ((Kept.refl (fun _ => False) w).alloc o) (fun h => h)
theorem Mp.drew (h : Mp w P k ι b n F) : Mp w.drew P k ι b n F := h

/-- It is no row of cells. -/
theorem Mp.ne (h : Mp w P k ι b n F) {g : Nat} {cs : Array Value} {e : TypeId} {f : Nat × Nat} (hg : w.heap[g]? = some (.cells cs e f)) : b ≠ g := by
  rintro rfl
  obtain ⟨es, clock, h1, _⟩ := h
  rw [h1] at hg
  cases hg

theorem Mp.made (w : World) (P : Program) (k : TypeId) (ι : α → Value) : Mp (w.alloc (.map #[] 0)) P k ι w.heap.size 0 (fun _ => none) :=
  ⟨#[], 0, (MapKept.heap_alloc w _).1, ⟨by simp, stamped_empty 0, by simp⟩, Nat.le_refl _, by simp, by simp⟩

/-- What it holds has keys. -/
theorem Mp.key (h : Mp w P k ι b n F) {a : α} {v : Value} (hv : F a = some v) : ∃ kl, keyOf P k (ι a) = some kl := by
  obtain ⟨es, clock, h1, h2, _, _, h5⟩ := h
  obtain ⟨x, hx, hk, _⟩ := h5 a v hv
  obtain ⟨y, hy⟩ := h2.reads x hx
  exact ⟨_, hk ▸ rd_key hy⟩

include T

theorem Mp.look (h : Mp w P k ι b n F) {a : α} {kl : Lit} (hkey : keyOf P k (ι a) = some kl) (c : Bool) :
    (Instr.lookup t (.map (some b)) (ι a) c).run P w = .ok (if c then .tuple #[(F a).getD z, .bool (F a).isSome] else (F a).getD z) w := by
  obtain ⟨es, clock, h1, h2, _, h4, h5⟩ := h
  rcases Maps.fit_look c T.K T.ht (T.hz w) h1 h2 hkey with ⟨hrun, hno, _⟩ | ⟨e0, y, he, hk, hrun, _⟩
  · have : F a = none := by
      cases hF : F a with
      | none => rfl
      | some v =>
        obtain ⟨x, hx, hxk, _⟩ := h5 a v hF
        exact absurd hxk (hno x hx)
    rw [hrun, this]
    rfl
  · obtain ⟨a', ha', hF⟩ := h4 e0 he
    obtain rfl := T.inj (ha'.symm.trans hk)
    rw [hrun, hF]
    rfl

omit T in
theorem rg_raw {es : Array MapEntry} {clock : Nat} (h2 : Fit P k rawR es clock) {x : MapEntry} (hx : x ∈ es.toList) : ∃ kl, keyOf P k x.key = some kl ∧ rg P k rawR x = (kl, .held x.val) := by
  obtain ⟨y, hy⟩ := h2.reads x hx
  refine ⟨y.1, rd_key hy, ?_⟩
  rw [rg_of hy]
  obtain ⟨z, hz, hz2⟩ := rd_val hy
  simp only [rawR, Option.some.injEq] at hz
  subst hz
  exact Prod.ext rfl hz2

theorem Mp.store [DecidableEq α] (h : Mp w P k ι b n F) (hn : n < maxLen) {a : α} {kl : Lit} (hkey : keyOf P k (ι a) = some kl) (v : Value) :
    ∃ w', (Instr.mapUpdate t (.map (some b)) (ι a) v).run P w = .ok () w' ∧ Mp w' P k ι b (n + 1) (upd F a v) ∧ w.grownBy w' (some b) := by
  obtain ⟨es, clock, h1, h2, h3, h4, h5⟩ := h
  obtain ⟨es', clock', hrun, F', hput, _, _, hold⟩ := Maps.fit_store (R' := rawR) T.K T.ht h1 h2 (Nat.lt_of_le_of_lt h3 hn) (fun _ _ _ _ hz => hz) hkey (val := v) rfl
  refine ⟨_, hrun, ⟨es', clock', heap_setBlock_same h1 _, F', ?_, ?_, ?_⟩, ⟨rfl, rfl, rfl, by simp [setBlock], fun i _ hi => heap_setBlock_other h1 _ (fun e => hi (by rw [e]))⟩⟩
  · have e1 : es'.size = ((es'.toList.map (rg P k rawR)).foldr DataW.insert []).length := by rw [length_sorted]; simp
    rw [e1, hput]
    unfold putKey
    rw [length_insert]
    have e2 := List.length_filter_le (notKey kl) ((es.toList.map (rg P k rawR)).foldr DataW.insert [])
    rw [length_sorted] at e2
    simp at e2
    omega
  · intro x' hx'
    rcases hold x' hx' with ⟨hx, hne⟩ | ⟨hk, hv⟩
    · obtain ⟨a', ha', hF⟩ := h4 x' hx
      refine ⟨a', ha', ?_⟩
      rw [upd_other _ _ (fun e => hne (by rw [ha', e]))]
      exact hF
    · exact ⟨a, hk, by rw [upd_same, hv]⟩
  · intro a' v' hF
    have find : ∀ p, p ∈ putKey kl (.held v) ((es.toList.map (rg P k rawR)).foldr DataW.insert []) → ∃ x' ∈ es'.toList, rg P k rawR x' = p := by
      intro p hp
      rw [← hput, mem_sorted] at hp
      exact List.mem_map.1 hp
    by_cases e : a' = a
    · subst e
      rw [upd_same] at hF
      obtain ⟨x', hx', hrg⟩ := find (kl, .held v) (mem_insert_iff.2 (.inl rfl))
      obtain ⟨kl', hk', hr'⟩ := rg_raw F' hx'
      rw [hr'] at hrg
      simp only [Prod.mk.injEq, DataW.held.injEq] at hrg
      obtain ⟨rfl, hv⟩ := hrg
      refine ⟨x', hx', T.K.inj hk' hkey, ?_⟩
      rw [hv]
      simpa using hF
    · rw [upd_other _ _ e] at hF
      obtain ⟨x, hx, hxk, hxv⟩ := h5 a' v' hF
      obtain ⟨kx, hkx, hrx⟩ := rg_raw h2 hx
      have hne : kx ≠ kl := fun e1 => e (T.inj (by rw [← hxk]; exact T.K.inj hkx (e1 ▸ hkey)))
      obtain ⟨x', hx', hrg⟩ := find (rg P k rawR x) (by
        refine mem_insert_iff.2 (.inr (List.mem_filter.2 ⟨mem_sorted.2 (List.mem_map.2 ⟨x, hx, rfl⟩), ?_⟩))
        rw [Maps.notKey_iff (T.K.key hkey), hrx]
        exact hne)
      obtain ⟨kl', hk', hr'⟩ := rg_raw F' hx'
      rw [hr', hrx] at hrg
      simp only [Prod.mk.injEq, DataW.held.injEq] at hrg
      obtain ⟨rfl, hv⟩ := hrg
      exact ⟨x', hx', (T.K.inj hk' hkx).trans hxk, hv.trans hxv⟩

theorem Mp.drop [DecidableEq α] (h : Mp w P k ι b n F) {a : α} {kl : Lit} (hkey : keyOf P k (ι a) = some kl) (ty : TypeId) :
    ∃ w', (Builtin.delete_ #[t, k] ty #[.map (some b), ι a]).run P w = .ok (.tuple #[]) w' ∧ Mp w' P k ι b n (del F a) ∧ w.grownBy w' (some b) := by
  obtain ⟨es, clock, h1, h2, h3, h4, h5⟩ := h
  obtain ⟨es', hrun, F', hs, _, _, hmem⟩ := fit_drop_who (ty := ty) T.K T.ht h1 h2 hkey
  refine ⟨_, hrun, ⟨es', clock, heap_setBlock_same h1 _, F', by omega, ?_, ?_⟩, ⟨rfl, rfl, rfl, by simp [setBlock], fun i _ hi => heap_setBlock_other h1 _ (fun e => hi (by rw [e]))⟩⟩
  · intro x hx
    obtain ⟨hx1, hne⟩ := (hmem x).1 hx
    obtain ⟨a', ha', hF⟩ := h4 x hx1
    refine ⟨a', ha', ?_⟩
    rw [del_other _ (fun e => hne (by rw [ha', e]))]
    exact hF
  · intro a' v' hF
    by_cases e : a' = a
    · rw [e, del_same] at hF
      cases hF
    · rw [del_other _ e] at hF
      obtain ⟨x, hx, hxk, hxv⟩ := h5 a' v' hF
      exact ⟨x, (hmem x).2 ⟨hx, fun e1 => e (T.inj (hxk.symm.trans e1))⟩, hxk, hxv⟩

end

/-! ### At the operations -/
section
variable {α : Type} {P : Program} {t k e : TypeId} {ι : α → Value} {z : Value} (T : MpT P t k e ι z)
variable {w : World} {ops : Array Oper} {rest : List Oper} {o : Oper} {a : Act} {Q : Exit → Act → World → Prop} {b n : Nat} {F : α → Option Value}
include T

theorem wpList_look (h : Mp w P k ι b n F) {x : α} {kl : Lit} (hkey : keyOf P k (ι x) = some kl) {m y : Operand} (hg : o.guard = none) (hop : o.op = Op.lookup t m y false) (hm : a.eval m = .map (some b)) (hy : a.eval y = ι x) {v : Value} (hv : (F x).getD z = v)
    (hK : wpList P ops Q rest (a.put o.dst v) w) : wpList P ops Q (o :: rest) a w := by
  refine wpList_plain hg fun K' hK' => ?_
  have hrun := h.look T hkey false
  rw [hv] at hrun
  unfold Oper.wp
  simp [execOp, hop, hm, hy, hrun, Result.andThen]
  exact hK' _ _ hK

theorem wpList_look_ok (h : Mp w P k ι b n F) {x : α} {kl : Lit} (hkey : keyOf P k (ι x) = some kl) {m y : Operand} (hg : o.guard = none) (hop : o.op = Op.lookup t m y true) (hm : a.eval m = .map (some b)) (hy : a.eval y = ι x)
    (hK : wpList P ops Q rest (a.put o.dst (.tuple #[(F x).getD z, .bool (F x).isSome])) w) : wpList P ops Q (o :: rest) a w := by
  refine wpList_plain hg fun K' hK' => ?_
  have hrun := h.look T hkey true
  unfold Oper.wp
  simp [execOp, hop, hm, hy, hrun, Result.andThen]
  exact hK' _ _ hK

theorem wpList_store [DecidableEq α] (h : Mp w P k ι b n F) (hn : n < maxLen) {x : α} {kl : Lit} (hkey : keyOf P k (ι x) = some kl) {m y v : Operand} {val : Value} (hg : o.guard = none) (hop : o.op = Op.mapUpdate t m y v) (hm : a.eval m = .map (some b)) (hy : a.eval y = ι x) (hv : a.eval v = val)
    (hK : ∀ w', Mp w' P k ι b (n + 1) (upd F x val) → w.grownBy w' (some b) → wpList P ops Q rest (a.put o.dst undef) w') : wpList P ops Q (o :: rest) a w := by
  refine wpList_plain hg fun K' hK' => ?_
  obtain ⟨w', hrun, r1, r2⟩ := h.store T hn hkey val
  unfold Oper.wp
  simp [execOp, hop, hm, hy, hv, hrun, Result.andThen]
  exact hK' _ _ (hK w' r1 r2)

theorem wpList_drop [DecidableEq α] (h : Mp w P k ι b n F) {x : α} {kl : Lit} (hkey : keyOf P k (ι x) = some kl) {m y : Operand} (hg : o.guard = none) (hop : o.op = Op.call { callee := Callee.builtin Builtin.delete, args := #[m, y], argTypes := #[t, k] }) (hm : a.eval m = .map (some b)) (hy : a.eval y = ι x)
    (hK : ∀ w', Mp w' P k ι b n (del F x) → w.grownBy w' (some b) → wpList P ops Q rest (a.put o.dst (.tuple #[])) w') : wpList P ops Q (o :: rest) a w := by
  refine wpList_plain hg fun K' hK' => ?_
  obtain ⟨w', hrun, r1, r2⟩ := h.drop T hkey o.type
  unfold Oper.wp
  simp only [execOp, hop, resolve, invoke, builtin, Sem.run_bind, Sem.run_pure, Result.andThen_ok, List.map_toArray, List.map_cons, List.map_nil, hm, hy, hrun]
  exact hK' _ _ (hK w' r1 r2)
end

/-! ### A range over it -/
section
variable {α : Type} [DecidableEq α] {P : Program} {t k e : TypeId} {ι : α → Value} {z : Value} (T : MpT P t k e ι z)
variable {w : World} {b r n cnt : Nat} {F : α → Option Value} {left : α → Bool}

/-- Block r goes through the map of block b; left: what is still to come. -/
def Rg (w : World) (P : Program) (k : TypeId) (ι : α → Value) (b r n : Nat) (F : α → Option Value) (left : α → Bool) (cnt : Nat) : Prop :=
  Mp w P k ι b n F ∧ ∃ leftL D, w.ranges P k rawR b r n D leftL cnt ∧ ∀ a, left a = match keyOf P k (ι a) with | some kl => leftL kl | none => false

omit [DecidableEq α] in
theorem Rg.kept {S : Nat → Prop} {w' : World} (h : Rg w P k ι b r n F left cnt) (hk : Kept S w w') (hb : ¬ S b) (hr : ¬ S r) : Rg w' P k ι b r n F left cnt := by
  obtain ⟨h1, leftL, D, ⟨es, clock, since, seen, c0, q1, q2, q3, q4, q5, q6⟩, h3⟩ := h
  exact ⟨h1.kept hk hb, leftL, D, ⟨es, clock, since, seen, c0, hk.heap q1 hb, q2, q3, q4, hk.heap q5 hr, q6⟩, h3⟩

omit [DecidableEq α] in
theorem Rg.left_eq (h : Rg w P k ι b r n F left cnt) : w.rangeLeft b r = cnt := by
  obtain ⟨_, _, _, h2, _⟩ := h
  exact h2.left_eq

omit [DecidableEq α] in
theorem Rg.lt (h : Rg w P k ι b r n F left cnt) : r < w.heap.size := by
  obtain ⟨_, _, _, h2, _⟩ := h
  exact h2.lt

omit [DecidableEq α] in
/-- The iterator's block is no row of cells. -/
theorem Rg.ne (h : Rg w P k ι b r n F left cnt) {g : Nat} {cs : Array Value} {e : TypeId} {f : Nat × Nat} (hg : w.heap[g]? = some (.cells cs e f)) : r ≠ g := by
  rintro rfl
  obtain ⟨_, _, _, ⟨es, clock, since, seen, c0, _, _, _, _, q5, _⟩, _⟩ := h
  rw [q5] at hg
  cases hg

include T
omit [DecidableEq α] in
theorem Mp.range (h : Mp w P k ι b n F) : ∃ w' cnt, (Instr.range t (.map (some b))).run P w = .ok (.pointer (some ⟨w.heap.size, 0, none⟩)) w' ∧ Rg w' P k ι b w.heap.size n F (fun a => (F a).isSome) cnt ∧ w.grownBy w' none ∧ w'.heap.size = w.heap.size + 1 := by
  have h0 := h
  obtain ⟨es, clock, h1, h2, h3, h4, h5⟩ := h
  have ho : w.ownsMap P k rawR b n (.map ((es.toList.map (rg P k rawR)).foldr DataW.insert [])) := ⟨es, clock, h1, h2, h3, rfl⟩
  obtain ⟨w', hrun, hrg, hgr, hsz⟩ := ho.range T.K T.ht
  refine ⟨w', _, hrun, ⟨h0.kept (Kept.of_grown hgr) (by simp), _, _, hrg, ?_⟩, hgr, hsz⟩
  intro a
  have key : ∀ kl, keyOf P k (ι a) = some kl → ((F a).isSome = true ↔ Maps.has (.map ((es.toList.map (rg P k rawR)).foldr DataW.insert [])) kl = true) := by
    intro kl hkl
    constructor
    · intro hs
      obtain ⟨v, hv⟩ := Option.isSome_iff_exists.1 hs
      obtain ⟨x, hx, hxk, _⟩ := h5 a v hv
      obtain ⟨kx, hkx, hrx⟩ := rg_raw h2 hx
      rw [hxk, hkl] at hkx
      cases hkx
      exact List.any_eq_true.2 ⟨rg P k rawR x, mem_sorted.2 (List.mem_map.2 ⟨x, hx, rfl⟩), by rw [hrx]; exact WideAt.sameKey_self (T.K.key hkl)⟩
    · intro hh
      obtain ⟨p, hp, hpk⟩ := List.any_eq_true.1 hh
      obtain ⟨x, hx, rfl⟩ := List.mem_map.1 (mem_sorted.1 hp)
      obtain ⟨kx, hkx, hrx⟩ := rg_raw h2 hx
      have e1 := WideAt.sameKey_eq hpk
      rw [hrx] at e1
      simp only at e1
      subst e1
      obtain ⟨a', ha', hF⟩ := h4 x hx
      have : a' = a := T.inj (ha'.symm.trans (T.K.inj hkx hkl))
      rw [← this, hF]
      rfl
  cases hkl : keyOf P k (ι a) with
  | none =>
    cases hF : F a with
    | none => simp [hF]
    | some v =>
      obtain ⟨kl, h6⟩ := h0.key hF
      rw [hkl] at h6
      cases h6
  | some kl =>
    have := key kl hkl
    simp only
    rw [Bool.eq_iff_iff]
    exact this

theorem Rg.next (h : Rg w P k ι b r n F left cnt) (ty : TypeId) :
    (cnt = 0 ∧ (∀ a, left a = false) ∧ (Instr.next (.pointer (some ⟨r, 0, none⟩)) false ty).run P w = .ok (.tuple #[.bool false]) w) ∨
    ∃ a v w' cnt', left a = true ∧ F a = some v ∧ (Instr.next (.pointer (some ⟨r, 0, none⟩)) false ty).run P w = .ok (.tuple #[.bool true, ι a, v]) w' ∧
      Rg w' P k ι b r n F (fun x => left x && !decide (x = a)) cnt' ∧ cnt' < cnt ∧ w.grownBy w' (some r) ∧ w'.heap.size = w.heap.size ∧ (Instr.entry (.pointer (some ⟨r, 0, none⟩))).run P w' = .ok (.tuple #[ι a, v]) w' := by
  obtain ⟨h1, leftL, D, h2, h3⟩ := h
  rcases h2.next T.K ty with ⟨q1, q2, q3⟩ | ⟨key, v, kl, y, w', cnt', q1, q2, q3, q4, q5, q6, q7, q8, q9, q10⟩
  · refine .inl ⟨q1, fun a => ?_, q3⟩
    rw [h3]
    split
    · exact q2 _
    · rfl
  · obtain ⟨a, rfl⟩ := T.inv q1
    simp only [rawR, Option.some.injEq] at q3
    subst q3
    have hF : F a = some v := by
      obtain ⟨es, clock, m1, m2, m3, m4, m5⟩ := h1
      obtain ⟨es', clock', _, _, _, p1, p2, p3, p4, _⟩ := h2
      rw [m1] at p1
      cases p1
      subst p4
      rcases Maps.fit_look false T.K T.ht (T.hz w) m1 m2 q1 with ⟨_, _, hat⟩ | ⟨e0, y, he, hk, _, hR, hat, _⟩
      · have e1 := (hat (.lit (.bool true))).symm.trans (q4 _)
        cases e1
      · simp only [rawR, Option.some.injEq] at hR
        subst hR
        have e1 := (hat (.lit (.bool true))).symm.trans (q4 _)
        simp only [DataW.held.injEq] at e1
        obtain ⟨a', ha', hF'⟩ := m4 e0 he
        obtain rfl := T.inj (ha'.symm.trans hk)
        rw [hF', e1]
    refine .inr ⟨a, v, w', cnt', ?_, hF, q5, ⟨h1.kept (Kept.of_grown q8) (by simp [h2.ne.symm]), _, _, q6, ?_⟩, q7, q8, q9, q10⟩
    · rw [h3, q1]
      exact q2
    · intro x
      show (left x && !decide (x = a)) = _
      rw [h3]
      cases hx : keyOf P k (ι x) with
      | none => simp
      | some kx =>
        simp only
        congr 1
        by_cases e : x = a
        · subst e
          rw [hx] at q1
          cases q1
          simp [WideAt.sameKey_self (T.K.key hx)]
        · simp only [e, decide_false, Bool.not_false]
          cases hs : kx.sameKey kl
          · rfl
          · have := WideAt.sameKey_eq hs
            subst this
            exact absurd (T.inj (T.K.inj hx q1)) e

variable {ops : Array Oper} {rest : List Oper} {o : Oper} {a : Act} {Q : Exit → Act → World → Prop}

omit [DecidableEq α] in
theorem wpList_rng (h : Mp w P k ι b n F) {m : Operand} (hg : o.guard = none) (hop : o.op = Op.range t m) (hm : a.eval m = .map (some b))
    (hK : ∀ w' cnt, Rg w' P k ι b w.heap.size n F (fun a => (F a).isSome) cnt → w.grownBy w' none → w'.heap.size = w.heap.size + 1 → wpList P ops Q rest (a.put o.dst (.pointer (some ⟨w.heap.size, 0, none⟩))) w') : wpList P ops Q (o :: rest) a w := by
  refine wpList_plain hg fun K' hK' => ?_
  obtain ⟨w', cnt, hrun, r1, r2, r3⟩ := h.range T
  unfold Oper.wp
  simp [execOp, hop, hm, hrun, Result.andThen]
  exact hK' _ _ (hK w' cnt r1 r2 r3)

theorem wpList_nxt (h : Rg w P k ι b r n F left cnt) {it : Operand} (hg : o.guard = none) (hop : o.op = Op.next it false) (hit : a.eval it = .pointer (some ⟨r, 0, none⟩))
    (hDone : cnt = 0 → (∀ x, left x = false) → wpList P ops Q rest (a.put o.dst (.tuple #[.bool false])) w)
    (hMore : ∀ x v w' cnt', left x = true → F x = some v → Rg w' P k ι b r n F (fun y => left y && !decide (y = x)) cnt' → cnt' < cnt → w.grownBy w' (some r) → w'.heap.size = w.heap.size →
      (Instr.entry (.pointer (some ⟨r, 0, none⟩))).run P w' = .ok (.tuple #[ι x, v]) w' → wpList P ops Q rest (a.put o.dst (.tuple #[.bool true, ι x, v])) w') :
    wpList P ops Q (o :: rest) a w := by
  refine wpList_plain hg fun K' hK' => ?_
  unfold Oper.wp
  rcases h.next T o.type with ⟨h0, hl, hrun⟩ | ⟨x, v, w', cnt', hl, hF, hrun, hrg, hlt, hgr, hsz, hen⟩
  · simp [execOp, hop, hit, hrun, Result.andThen]
    exact hK' _ _ (hDone h0 hl)
  · simp [execOp, hop, hit, hrun, Result.andThen]
    exact hK' _ _ (hMore x v w' cnt' hl hF hrg hlt hgr hsz hen)
end

theorem mapT_string {P : Program} {t k e : TypeId} {z : Value} (hk : P.underlying k = some .string) (ht : P.underlying t = some (.map k e)) (hz : ∀ w, (zeroValue e).run P w = .ok z w) : MpT P t k e (fun s : BA => Value.string s) z where
  K := string_keyed hk
  ht := ht
  hz := hz
  inj h := by simpa using h
  inv {v kl} h := by
    cases v <;> simp [keyOf, hk, mapKey] at h
    exact ⟨_, rfl⟩

theorem mapT_int {P : Program} {t k e : TypeId} {q : IntKind} {z : Value} (hk : P.underlying k = some (.int q)) (ht : P.underlying t = some (.map k e)) (hz : ∀ w, (zeroValue e).run P w = .ok z w) : MpT P t k e (fun s : Int => Value.int q s) z where
  K := int_keyed hk
  ht := ht
  hz := hz
  inj h := by simpa using h
  inv {v kl} h := by
    obtain ⟨x, rfl, _⟩ := Maps.keyOf_int_inv hk h
    exact ⟨x, rfl⟩

#print axioms wpList_nxt
end Go.Proofs.YteamkpmkchmhnaaDoor
