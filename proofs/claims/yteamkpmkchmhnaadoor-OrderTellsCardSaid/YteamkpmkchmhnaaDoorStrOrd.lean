/- Plain: the order of texts. -/
import Derived.Test.YteamkpmkchmhnaaDoorBase
import Derived.Test.YteamkpmkchmhnaaDoorHeapThy
import Derived.Lib.Strings
namespace Go.Proofs.YteamkpmkchmhnaaDoor

theorem bytesLess_irr : ∀ a : List UInt8, Op.bytesLess a a = false
  | [] => rfl
  | x :: r => by simp [Op.bytesLess, bytesLess_irr r]

theorem bytesLess_trans : ∀ {a b c : List UInt8}, Op.bytesLess a b = true → Op.bytesLess b c = true → Op.bytesLess a c = true
  | _, [], _, h, _ => by simp [Op.bytesLess] at h
  | _, _ :: _, [], _, h => by simp [Op.bytesLess] at h
  | [], _ :: _, _ :: _, _, _ => rfl
  | x :: a, y :: b, z :: c, h, k => by
    simp only [Op.bytesLess, Bool.or_eq_true, Bool.and_eq_true, decide_eq_true_eq, beq_iff_eq, UInt8.lt_iff_toNat_lt] at h k ⊢
    rcases h with h | ⟨rfl, h⟩
    · rcases k with k | ⟨rfl, k⟩
      · left; omega
      · left; exact h
    · rcases k with k | ⟨rfl, k⟩
      · left; exact k
      · right; exact ⟨rfl, bytesLess_trans h k⟩

theorem bytesLess_total : ∀ {a b : List UInt8}, a ≠ b → Op.bytesLess a b = true ∨ Op.bytesLess b a = true
  | [], [], h => absurd rfl h
  | [], _ :: _, _ => .inl rfl
  | _ :: _, [], _ => .inr rfl
  | x :: a, y :: b, h => by
    simp only [Op.bytesLess, Bool.or_eq_true, Bool.and_eq_true, decide_eq_true_eq, beq_iff_eq, UInt8.lt_iff_toNat_lt]
    by_cases e : x = y
    · subst e
      rcases bytesLess_total (a := a) (b := b) (fun e => h (by rw [e])) with h1 | h1
      · exact .inl (.inr ⟨rfl, h1⟩)
      · exact .inr (.inr ⟨rfl, h1⟩)
    · have : x.toNat ≠ y.toNat := fun h => e (UInt8.toNat_inj.1 h)
      rcases Nat.lt_or_gt_of_ne this with h1 | h1
      · exact .inl (.inl h1)
      · exact .inr (.inl h1)

def ltB (a b : BA) : Bool := Op.bytesLess a.toList b.toList

theorem toList_inj {a b : BA} (h : a.toList = b.toList) : a = b := by
  rw [Lib.toList_data, Lib.toList_data] at h
  cases a
  cases b
  simp at h
  rw [h]

theorem ltB_LO : LO ltB := ⟨fun _ => bytesLess_irr _, fun h k => bytesLess_trans h k, fun h => bytesLess_total fun e => h (toList_inj e)⟩

theorem eqB (a b : BA) : (a.toList == b.toList) = decide (a = b) := by
  by_cases h : a = b
  · subst h; simp
  · rw [decide_eq_false h, beq_eq_false_iff_ne.2 fun e => h (toList_inj e)]
#print axioms ltB_LO
end Go.Proofs.YteamkpmkchmhnaaDoor
