/- The words that the walks use: which blocks a call may turn, a slice of strings that came in, a row of strings of the call's own. No program is named here but by its numbers for types. -/
import Derived.Test.YteamkpmkchmhnaaDoorProg
import Derived.WalkKit
import Derived.Maps.AppendAt
import Derived.Deep.Draws
import Derived.Deep.AppendLies
namespace Go.Proofs.YteamkpmkchmhnaaDoor
open Go.RowKit

abbrev BA := ByteArray

instance memBA (l : List BA) (s : BA) : Decidable (s ∈ l) := @List.instDecidableMemOfLawfulBEq BA instBEqOfDecidableEq inferInstance s l

/-- All old blocks but those of S are as they were. -/
structure Kept (S : Nat → Prop) (w w' : World) : Prop where
  os : w'.os = w.os
  tape : w'.tape = w.tape
  output : w'.output = w.output
  size : w.heap.size ≤ w'.heap.size
  block : ∀ k, k < w.heap.size → ¬ S k → w'.heap[k]? = w.heap[k]?

theorem Kept.refl (S : Nat → Prop) (w : World) : Kept S w w := ⟨rfl, rfl, rfl, Nat.le_refl _, fun _ _ _ => rfl⟩

theorem Kept.mono {S T : Nat → Prop} {w w' : World} (h : Kept S w w') (hs : ∀ k, k < w.heap.size → S k → T k) : Kept T w w' :=
  ⟨h.os, h.tape, h.output, h.size, fun k hk ht => h.block k hk fun s => ht (hs k hk s)⟩

theorem Kept.trans {S : Nat → Prop} {a b c : World} (h : Kept S a b) (k : Kept S b c) : Kept S a c :=
  ⟨k.os.trans h.os, k.tape.trans h.tape, k.output.trans h.output, Nat.le_trans h.size k.size, fun i hi hs => (k.block i (Nat.lt_of_lt_of_le hi h.size) hs).trans (h.block i hi hs)⟩

/-- One step more: what it turns is of S, or new since a. -/
theorem Kept.then {S T : Nat → Prop} {a b c : World} (h : Kept S a b) (k : Kept T b c) (hst : ∀ i, i < a.heap.size → T i → S i) : Kept S a c :=
  ⟨k.os.trans h.os, k.tape.trans h.tape, k.output.trans h.output, Nat.le_trans h.size k.size, fun i hi hs => (k.block i (Nat.lt_of_lt_of_le hi h.size) fun t => hs (hst i hi t)).trans (h.block i hi hs)⟩

theorem Kept.of_grown {w w' : World} {row : Option Nat} (h : w.grownBy w' row) : Kept (fun k => some k = row) w w' := ⟨h.os, h.tape, h.output, h.size, fun k hk hs => h.block k hk hs⟩
theorem Kept.of_below {w w' : World} {B : Nat} (h : Below B w w') : Kept (fun k => B ≤ k) w w' := ⟨h.os, h.tape, h.output, h.size, fun k _ hs => h.block k (by omega)⟩
theorem Kept.below {w w' : World} {S : Nat → Prop} {B : Nat} (h : Kept S w w') (hB : B ≤ w.heap.size) (hs : ∀ k, k < B → ¬ S k) : Below B w w' := ⟨h.os, h.tape, h.output, h.size, fun k hk => h.block k (by omega) (hs k hk)⟩

theorem Kept.alloc {S : Nat → Prop} {a w : World} (h : Kept S a w) (o : Obj) : Kept S a (w.alloc o) :=
  h.then (T := fun _ => False) ⟨rfl, rfl, rfl, by simp, fun k hk _ => Below.heap_alloc _ _ _ hk⟩ (fun _ _ h => h.elim)
theorem Kept.drew {S : Nat → Prop} {a w : World} (h : Kept S a w) : Kept S a w.drew := ⟨h.os, h.tape, h.output, h.size, h.block⟩
theorem Kept.drewN {S : Nat → Prop} {a w : World} (h : Kept S a w) (n : Nat) : Kept S a (w.drewN n) := ⟨h.os, h.tape, h.output, h.size, h.block⟩
theorem Kept.setCell {S : Nat → Prop} {a w : World} (h : Kept S a w) (p : Addr) (u : Value) (hp : a.heap.size ≤ p.block ∨ S p.block) : Kept S a (w.setCell p u) :=
  h.then (T := fun k => k = p.block) ⟨rfl, rfl, rfl, by simp [World.setCell], fun k hk hn => Below.heap_setCell _ _ _ _ hn⟩
    (fun i hi e => by
      rw [e] at hi ⊢
      rcases hp with hp | hp
      · omega
      · exact hp)

theorem Kept.cell {S : Nat → Prop} {w w' : World} (h : Kept S w w') {p : Addr} (hp : p.block < w.heap.size) (hs : ¬ S p.block) : w'.cell? p = w.cell? p := World.cell?_of_block (h.block p.block hp hs)
theorem Kept.at {S : Nat → Prop} {w w' : World} (h : Kept S w w') {p : Addr} {v : Value} (hc : w.cell? p = some v) (hs : ¬ S p.block) : w'.cell? p = some v := (h.cell (World.block_lt_of_cell? w p hc) hs).trans hc
theorem Kept.heap {S : Nat → Prop} {w w' : World} (h : Kept S w w') {k : Nat} {o : Obj} (hc : w.heap[k]? = some o) (hs : ¬ S k) : w'.heap[k]? = some o := (h.block k (Array.getElem?_eq_some_iff.1 hc).1 hs).trans hc

theorem Kept.row {S : Nat → Prop} {w w' : World} (h : Kept S w w') {base : Nat} {e : TypeId} {size : Nat} {v : Value} {n : Nat} {xs : List Value} (ho : w.ownsRow base e size v n xs)
    (hs : ∀ k, v.ownBlock = some k → ¬ S k) : w'.ownsRow base e size v n xs := by
  refine ⟨ho.1, ?_⟩
  rcases ho.2 with hn | ⟨g, cap, cur, rfl, hb, hgg, rest⟩
  · exact .inl hn
  · exact .inr ⟨g, cap, cur, rfl, hb, h.heap hgg (hs g rfl), rest⟩

/-- A slice's value reads as a list of strings, wherever they lie. -/
def RdS (w : World) (a : Option Addr) (ss : List BA) : Prop :=
  ∀ (k : Nat) (h : k < ss.length), ∃ b off, a = some ⟨b, off, none⟩ ∧ w.cell? ⟨b, off + k, none⟩ = some (.string ss[k])

theorem RdS.kept {S : Nat → Prop} {w w' : World} {a : Option Addr} {ss : List BA} (h : RdS w a ss) (hk : Kept S w w') (hs : ∀ p, a = some p → ¬ S p.block) : RdS w' a ss := by
  intro k hk'
  obtain ⟨b, off, ha, hc⟩ := h k hk'
  exact ⟨b, off, ha, hk.at hc (hs ⟨b, off, none⟩ ha)⟩

/-- A slice's value whole: its parts, and that nil has no room. -/
def RdV (w : World) (v : Value) (ss : List BA) : Prop := ∃ a c, v = .slice a ss.length c ∧ (a = none → c = 0) ∧ ss.length ≤ c ∧ ss.length * 16 ≤ 140737488351232 ∧ RdS w a ss ∧ (∀ p, a = some p → 0 < c → p.block < w.heap.size) ∧ ∀ s ∈ ss, s.size ≤ maxLen

theorem RdV.kept {S : Nat → Prop} {w w' : World} {v : Value} {ss : List BA} (h : RdV w v ss) (hk : Kept S w w') (hs : ∀ k, v.ownBlock = some k → 0 < ss.length → ¬ S k) : RdV w' v ss := by
  obtain ⟨a, c, rfl, h1, h2, h3, h4, h5, h6⟩ := h
  refine ⟨a, c, rfl, h1, h2, h3, ?_, fun p hp hc => ?_, h6⟩
  · intro k hk'
    obtain ⟨b, off, ha, hc⟩ := h4 k hk'
    exact ⟨b, off, ha, hk.at hc (hs b (by rw [ha]; rfl) (by omega))⟩
  · have := h5 p hp hc
    have := hk.size
    omega

/-- A row of strings of the call's own. -/
def OS (w : World) (v : Value) (l : List BA) : Prop := w.ownsRow 0 9 1 v l.length (l.map Value.string)

theorem OS.shape {w : World} {v : Value} {l : List BA} (h : OS w v l) (hl : 0 < l.length) : ∃ g cap, v = .slice (some ⟨g, 0, none⟩) l.length cap := by
  rcases h.2 with ⟨_, h0⟩ | ⟨g, cap, cur, rfl, _⟩
  · omega
  · exact ⟨g, cap, rfl⟩

/-- .. of whatever length. -/
theorem OS.shape' {w : World} {v : Value} {l : List BA} (h : OS w v l) : ∃ a cap, v = .slice a l.length cap ∧ (∀ k, v.ownBlock = some k ↔ a = some ⟨k, 0, none⟩) := by
  rcases h.2 with ⟨hv, h0⟩ | ⟨g, cap, cur, rfl, _⟩
  · exact ⟨none, 0, by rw [hv, h0], by simp [hv, Value.ownBlock]⟩
  · exact ⟨_, cap, rfl, by simp [Value.ownBlock]⟩

theorem OS.rd {w : World} {a : Option Addr} {n c : Nat} {l : List BA} (h : OS w (.slice a n c) l) : RdS w a l := by
  intro k hk
  rcases h.2 with ⟨_, h0⟩ | ⟨g, cap, cur, hv, _⟩
  · omega
  · cases hv
    refine ⟨g, 0, rfl, ?_⟩
    have := World.ownsRow.cellAt h k (by omega)
    simpa [hk] using this

theorem OS.frozen {w : World} {g n c : Nat} {l : List BA} (h : OS w (.slice (some ⟨g, 0, none⟩) n c) l) (k : Nat) : w.frozen? ⟨g, k, none⟩ = false := by
  rcases h.2 with ⟨hv, _⟩ | ⟨g', cap, cur, hv, _, hg, _⟩
  · cases hv
  · cases hv
    simp [World.frozen?, hg]

theorem OS.len {w : World} {a : Option Addr} {n c : Nat} {l : List BA} (h : OS w (.slice a n c) l) : n = l.length := by
  rcases h.2 with ⟨hv, h0⟩ | ⟨g', cap, cur, hv, _, hg, _⟩
  · cases hv
    omega
  · cases hv
    rfl

theorem OS.le {w : World} {v : Value} {l : List BA} (h : OS w v l) : l.length ≤ 9223372036854775807 := by
  rcases h.2 with ⟨hv, h0⟩ | ⟨g', cap, cur, hv, _, hg, h1, h2, _⟩
  · omega
  · unfold maxLen at h2
    omega

theorem OS.stored {w : World} {g n c : Nat} {l : List BA} (h : OS w (.slice (some ⟨g, 0, none⟩) n c) l) (j : Nat) (s : BA) :
    OS (w.setCell ⟨g, j, none⟩ (.string s)) (.slice (some ⟨g, 0, none⟩) n c) (l.set j s) := by
  obtain rfl := h.len
  have := World.ownsRow.stored h j (.string s)
  unfold OS
  rw [List.length_set, List.map_set]
  exact this.1

theorem OS.kept {S : Nat → Prop} {w w' : World} {v : Value} {l : List BA} (h : OS w v l) (hk : Kept S w w') (hs : ∀ k, v.ownBlock = some k → ¬ S k) : OS w' v l := hk.row h hs

theorem OS.block_lt {w : World} {v : Value} {l : List BA} (h : OS w v l) {k : Nat} (hv : v.ownBlock = some k) : k < w.heap.size := (World.ownsRow.lt h k hv).2

/-- Its block's kind. -/
theorem OS.kind {w : World} {v : Value} {l : List BA} (h : OS w v l) {k : Nat} (hv : v.ownBlock = some k) : ∃ cur, w.heap[k]? = some (.cells cur 9 (0, 0)) := by
  rcases h.2 with ⟨rfl, h0⟩ | ⟨g, cap, cur, rfl, _, hg, _⟩
  · simp [Value.ownBlock] at hv
  · simp [Value.ownBlock] at hv
    subst hv
    exact ⟨cur, hg⟩

theorem ret_bool {a b : Bool} (h : a = b) : Ending.returned (.bool a) = .returned (.bool b) := by rw [h]
theorem ret_int {k : IntKind} {a b : Int} (h : a = b) : Ending.returned (.int k a) = .returned (.int k b) := by rw [h]

theorem strs_oneCell (l : List BA) : ∀ u ∈ l.map Value.string, u.oneCell' = true := by
  intro u hu
  obtain ⟨s, _, rfl⟩ := List.mem_map.1 hu
  rfl

theorem Tryd.infoS : (Tryd.prog.info? 9).map (fun i => (i.zero, i.size, i.bytes)) = some (some (.string ByteArray.empty), 1, 16) := by kernel_rfl


/-- A slice's type and its elements' row of the table. -/
structure ElT (P : Program) (t e : TypeId) (size bytes : Nat) : Prop where
  ht : P.underlying t = some (.slice e)
  hi : ∃ i z, P.info? e = some i ∧ i.zero = some z ∧ i.size = size ∧ i.bytes = bytes ∧ z.cells.size = size
  pos : 0 < size

theorem ElT.mk' {P : Program} {t e : TypeId} {size bytes : Nat} {z : Value} (ht : P.underlying t = some (.slice e)) (h : (P.info? e).map (fun i => (i.zero, i.size, i.bytes)) = some (some z, size, bytes)) (hz : z.cells.size = size) (pos : 0 < size) :
    ElT P t e size bytes := by
  obtain ⟨i, h1, h2, h3, h4⟩ := info_parts h
  exact ⟨ht, ⟨i, z, h1, h2, h3, h4, hz⟩, pos⟩

/-- append of what lies in a block that is known whole: in a region that draws. -/
theorem step_append_any {P : Program} {ops : Array Oper} {o : Oper} {a : Act} {w : World} {K : Act → World → Prop} {Q : Exit → Act → World → Prop} {E : Prop} {s x : Operand} {t e : TypeId} {size bytes : Nat} (T : ElT P t e size bytes)
    {v : Value} {n : Nat} {xs : List Value} (hown : w.ownsRow 0 e size v n xs) {ad : Addr} {m c : Nat} {news : List Value}
    (hnews : ∀ j u, news[j]? = some u → w.cell? (ad.add j) = some u) (h1 : ∀ u ∈ news, u.oneCell' = true) (hl : news.length = m * size)
    (hm : 0 < m) (h63 : n + m ≤ maxLen) (hbytes : (n + m) * bytes ≤ 140737488355328) (hgd : o.guard = none)
    (ho : o.op = .call { callee := .builtin .append, args := #[s, x], argTypes := #[t, t] }) (hs : a.eval s = v) (hx : a.eval x = .slice (some ad) m c)
    (h : ∀ g cap w', w'.ownsRow 0 e size (.slice (some ⟨g, 0, none⟩) (n + m) cap) (n + m) (xs ++ news) → w.grownBy w' v.ownBlock → (v.ownBlock = some g ∨ g = w.heap.size) → g < w'.heap.size → K (a.put o.dst (.slice (some ⟨g, 0, none⟩) (n + m) cap)) w') :
    if Region.wanted o (yielded ops a.tmps) = true then Oper.wp P o a w K Q else E := by
  obtain ⟨ht, ⟨i, z, hi, hz, hsz, hby, hzs⟩, pos⟩ := T
  exact step_append_lies w hgd s x t ho 0 e i z size bytes ht hi hz hsz hby hzs pos v n xs hs hown ad m c news hx hl hnews h1 hm h63 hbytes (Nat.zero_le _) _ rfl h

/-- .. in a plain region. -/
theorem wpList_append_any {P : Program} {ops : Array Oper} {rest : List Oper} {o : Oper} {a : Act} {w : World} {Q : Exit → Act → World → Prop} {s x : Operand} {t e : TypeId} {size bytes : Nat} (T : ElT P t e size bytes)
    {v : Value} {n : Nat} {xs : List Value} (hown : w.ownsRow 0 e size v n xs) {ad : Addr} {m c : Nat} {news : List Value}
    (hnews : ∀ j u, news[j]? = some u → w.cell? (ad.add j) = some u) (h1 : ∀ u ∈ news, u.oneCell' = true) (hl : news.length = m * size)
    (hm : 0 < m) (h63 : n + m ≤ maxLen) (hbytes : (n + m) * bytes ≤ 140737488355328) (hgd : o.guard = none)
    (ho : o.op = .call { callee := .builtin .append, args := #[s, x], argTypes := #[t, t] }) (hs : a.eval s = v) (hx : a.eval x = .slice (some ad) m c)
    (h : ∀ g cap w', w'.ownsRow 0 e size (.slice (some ⟨g, 0, none⟩) (n + m) cap) (n + m) (xs ++ news) → w.grownBy w' v.ownBlock → (v.ownBlock = some g ∨ g = w.heap.size) → g < w'.heap.size → wpList P ops Q rest (a.put o.dst (.slice (some ⟨g, 0, none⟩) (n + m) cap)) w') :
    wpList P ops Q (o :: rest) a w := by
  obtain ⟨ht, ⟨i, z, hi, hz, hsz, hby, hzs⟩, pos⟩ := T
  refine wpList_append_own_at (P := P) w hgd s x t ho 0 e i z size bytes ht hi hz hsz hby hzs pos v n xs hs hown ad m c news hx hl hnews h1 h63 hbytes (Nat.zero_le _) ?_
  intro v' w' ho' hg hn hat
  obtain ⟨g, cap, rfl, _, hlt⟩ := ho'.form (by omega)
  refine h g cap w' ho' hg ?_ hlt
  simp only [Value.ownBlock, Option.some.injEq] at hat
  rcases hat with h1 | h1
  · exact .inl h1.symm
  · exact .inr h1

/-- append from whatever source. -/
theorem run_append_src {P : Program} {t ty e : TypeId} {size bytes : Nat} (T : ElT P t e size bytes) {w : World} {v : Value} {n : Nat} {xs : List Value} (hown : w.ownsRow 0 e size v n xs) {sa : Option Addr} {m c : Nat} {news : List Value}
    (hnone : sa = none → m = 0 ∧ c = 0) (hl : news.length = m * size) (hnews : ∀ ad, sa = some ad → ∀ j u, news[j]? = some u → w.cell? (ad.add j) = some u) (h1 : ∀ u ∈ news, u.oneCell' = true)
    (h63 : n + m ≤ maxLen) (hbytes : (n + m) * bytes ≤ 140737488355328) :
    ∃ v' w', (Builtin.append_ #[t, t] ty #[v, .slice sa m c]).run P w = .ok v' w' ∧ w'.ownsRow 0 e size v' (n + m) (xs ++ news) ∧ w.grownBy w' v.ownBlock ∧ (∀ q, v'.ownBlock = some q → v.ownBlock = some q ∨ q = w.heap.size) := by
  obtain ⟨ht, ⟨i, z, hi, hz, hsz, hby, hzs⟩, pos⟩ := T
  cases sa with
  | none =>
    obtain ⟨rfl, rfl⟩ := hnone rfl
    have hn0 : news = [] := List.length_eq_zero_iff.1 (by simpa using hl)
    subst hn0
    refine ⟨v, w, run_append_owned_none (P := P) w 0 t ty e i size ht hi v n xs hown, by simpa using hown, World.grownBy.refl _ _, fun q hq => .inl hq⟩
  | some ad =>
    obtain ⟨v', w', hr, h2, h3, _, h5⟩ := run_append_own_at (P := P) w 0 t ty e i z size bytes ht hi hz hsz hby hzs pos v n xs hown ad m c news hl (hnews ad rfl) h1 h63 hbytes (Nat.zero_le _)
    refine ⟨v', w', hr, h2, h3, fun q hq => ?_⟩
    rcases h5 with h5 | h5
    · exact .inl (h5 ▸ hq)
    · rw [h5] at hq
      exact .inr (by simpa using hq.symm)

theorem step_append_src {P : Program} {ops : Array Oper} {o : Oper} {a : Act} {w : World} {K : Act → World → Prop} {Q : Exit → Act → World → Prop} {E : Prop} {s x : Operand} {t e : TypeId} {size bytes : Nat} (T : ElT P t e size bytes)
    {v : Value} {n : Nat} {xs : List Value} (hown : w.ownsRow 0 e size v n xs) {sa : Option Addr} {m c : Nat} {news : List Value}
    (hnone : sa = none → m = 0 ∧ c = 0) (hl : news.length = m * size) (hnews : ∀ ad, sa = some ad → ∀ j u, news[j]? = some u → w.cell? (ad.add j) = some u) (h1 : ∀ u ∈ news, u.oneCell' = true)
    (h63 : n + m ≤ maxLen) (hbytes : (n + m) * bytes ≤ 140737488355328) (hgd : o.guard = none)
    (ho : o.op = .call { callee := .builtin .append, args := #[s, x], argTypes := #[t, t] }) (hs : a.eval s = v) (hx : a.eval x = .slice sa m c)
    (h : ∀ v' w', w'.ownsRow 0 e size v' (n + m) (xs ++ news) → w.grownBy w' v.ownBlock → (∀ q, v'.ownBlock = some q → v.ownBlock = some q ∨ q = w.heap.size) → K (a.put o.dst v') w') :
    if Region.wanted o (yielded ops a.tmps) = true then Oper.wp P o a w K Q else E := by
  have hw : Region.wanted o (yielded ops a.tmps) = true := by simp [Region.wanted, hgd]
  rw [if_pos hw]
  obtain ⟨v', w', hr, h2, h3, h4⟩ := run_append_src (ty := o.type) T hown hnone hl hnews h1 h63 hbytes
  unfold Oper.wp execOp
  simp only [ho, resolve, invoke, builtin, Sem.run_bind, Sem.run_pure, Result.andThen_ok, List.map_toArray, List.map_cons, List.map_nil, hs, hx, hr]
  exact h v' w' h2 h3 h4

theorem wpList_append_src {P : Program} {ops : Array Oper} {rest : List Oper} {o : Oper} {a : Act} {w : World} {Q : Exit → Act → World → Prop} {s x : Operand} {t e : TypeId} {size bytes : Nat} (T : ElT P t e size bytes)
    {v : Value} {n : Nat} {xs : List Value} (hown : w.ownsRow 0 e size v n xs) {sa : Option Addr} {m c : Nat} {news : List Value}
    (hnone : sa = none → m = 0 ∧ c = 0) (hl : news.length = m * size) (hnews : ∀ ad, sa = some ad → ∀ j u, news[j]? = some u → w.cell? (ad.add j) = some u) (h1 : ∀ u ∈ news, u.oneCell' = true)
    (h63 : n + m ≤ maxLen) (hbytes : (n + m) * bytes ≤ 140737488355328) (hgd : o.guard = none)
    (ho : o.op = .call { callee := .builtin .append, args := #[s, x], argTypes := #[t, t] }) (hs : a.eval s = v) (hx : a.eval x = .slice sa m c)
    (h : ∀ v' w', w'.ownsRow 0 e size v' (n + m) (xs ++ news) → w.grownBy w' v.ownBlock → (∀ q, v'.ownBlock = some q → v.ownBlock = some q ∨ q = w.heap.size) → wpList P ops Q rest (a.put o.dst v') w') :
    wpList P ops Q (o :: rest) a w := by
  refine wpList_plain hgd fun K hK => ?_
  obtain ⟨v', w', hr, h2, h3, h4⟩ := run_append_src (ty := o.type) T hown hnone hl hnews h1 h63 hbytes
  unfold Oper.wp execOp
  simp only [ho, resolve, invoke, builtin, Sem.run_bind, Sem.run_pure, Result.andThen_ok, List.map_toArray, List.map_cons, List.map_nil, hs, hx, hr]
  exact hK _ _ (h v' w' h2 h3 h4)

theorem Tryd.elS : ElT Tryd.prog 25 9 1 16 := .mk' Tryd.underlying25 Tryd.infoS rfl (by decide)

#print axioms Kept.row
end Go.Proofs.YteamkpmkchmhnaaDoor
