/-
  ENGINE, part 23: laws of the interpreter's values, for the proofs over the residual propositions.
-/
import Derived.Test.YtoommmeapdkopaaE22
import Derived.IntWalk
namespace Go.Eng

theorem beq_eq_decide {α : Type} [BEq α] [LawfulBEq α] [DecidableEq α] (a b : α) : (a == b) = decide (a = b) := by
  by_cases h : a = b
  · simp [h]
  · simp [h]

section
variable {k : IntKind} {a b : Int}
@[simp] theorem binV_lss : binV .lss (.int k a) (.int k b) = some (.bool (decide (a < b))) := by simp [binV]
@[simp] theorem binV_leq : binV .leq (.int k a) (.int k b) = some (.bool (decide (a ≤ b))) := by simp [binV]
@[simp] theorem binV_gtr : binV .gtr (.int k a) (.int k b) = some (.bool (decide (a > b))) := by simp [binV]
@[simp] theorem binV_geq : binV .geq (.int k a) (.int k b) = some (.bool (decide (a ≥ b))) := by simp [binV]
@[simp] theorem binV_eql : binV .eql (.int k a) (.int k b) = some (.bool (decide (a = b))) := by simp only [binV, if_true, beq_eq_decide]
@[simp] theorem binV_neq : binV .neq (.int k a) (.int k b) = some (.bool (!decide (a = b))) := by simp only [binV, if_true, bne, beq_eq_decide]
@[simp] theorem binV_add : binV .add (.int k a) (.int k b) = some (.int k (k.wrap (a + b))) := by simp [binV]
@[simp] theorem binV_sub : binV .sub (.int k a) (.int k b) = some (.int k (k.wrap (a - b))) := by simp [binV]
@[simp] theorem binV_mul : binV .mul (.int k a) (.int k b) = some (.int k (k.wrap (a * b))) := by simp [binV]
end
@[simp] theorem binV_seql {a b : List UInt8} : binV .eql (.str a) (.str b) = some (.bool (decide (a = b))) := by simp only [binV, beq_eq_decide]
@[simp] theorem binV_sneq {a b : List UInt8} : binV .neq (.str a) (.str b) = some (.bool (!decide (a = b))) := by simp only [binV, beq_eq_decide]
@[simp] theorem unV_not {b : Bool} : unV .not (.bool b) = some (.bool (!b)) := nrfl
@[simp] theorem pickV_bool {b : Bool} {x y : V} : pickV (.bool b) x y = some (if b then x else y) := nrfl
@[simp] theorem gdV_bool {b w : Bool} : gdV (.bool b) w = some (b == w) := nrfl
@[simp] theorem gdV_undef {w : Bool} : gdV undefV w = some false := nrfl
@[simp] theorem lentV_str {s : List UInt8} : lentV (.str s) = some (.int .i64 s.length) := nrfl
@[simp] theorem eqnV_bool {a b neg : Bool} : eqnV .bool neg (.bool a) (.bool b) = some (.bool (if neg then !(a == b) else a == b)) := nrfl
@[simp] theorem callV_fn {f : FuncId} {cs : List V} : callV (.fn f cs) = some (f, cs) := nrfl

theorem wrap_i64 {x : Int} (h1 : -9223372036854775808 ≤ x) (h2 : x ≤ 9223372036854775807) : IntKind.i64.wrap x = x := Go.IntWalk.i64_in x ⟨h1, h2⟩
theorem wrap_succ {i : Nat} (h : i + 1 ≤ 9223372036854775807) : IntKind.i64.wrap ((i : Int) + 1) = ((i + 1 : Nat) : Int) := by rw [wrap_i64] <;> omega

def top : Nat := 9223372036854775807
def Sl (k : Nat) (v : V) (cs : List V) (n : Nat) : Prop := n ≤ top ∧ cs.length = n * k ∧ (v = .ro cs n ∨ (n = 0 ∧ (v = .nils ∨ v = .z0 ∨ v = .e0)))

namespace Sl
variable {k n : Nat} {v : V} {cs : List V}
theorem lens (h : Sl k v cs n) : lensV v = some (.int .i64 n) := by
  obtain ⟨_, _, rfl | ⟨rfl, rfl | rfl | rfl⟩⟩ := h <;> rfl
theorem closed (h : Sl k v cs n) : closedV v = true := by
  obtain ⟨_, _, rfl | ⟨rfl, rfl | rfl | rfl⟩⟩ := h <;> rfl
theorem one (h : Sl k v cs n) : oneC v = true := by
  obtain ⟨_, _, rfl | ⟨rfl, rfl | rfl | rfl⟩⟩ := h <;> rfl
theorem iadr (h : Sl k v cs n) {i : Nat} (hi : i < n) : iadrV k v (.int .i64 i) = some (.rptr (cs.drop (i * k))) := by
  obtain ⟨_, _, rfl | ⟨rfl, _⟩⟩ := h
  · simp [iadrV, hi]
  · omega
theorem cells (h : Sl k v cs n) (H : Heap) : sliceCells H v k = some (cs, n) := by
  obtain ⟨_, hl, rfl | ⟨rfl, rfl | rfl | rfl⟩⟩ := h
  · simp [sliceCells, ← hl]
  all_goals simp at hl; subst hl; rfl
end Sl

def Arr {α : Type} (k : Nat) (R : α → List V → Prop) (v : V) (l : List α) : Prop := ∃ css : List (List V), css.length = l.length ∧ (∀ i (h : i < l.length) (h' : i < css.length), R l[i] css[i]) ∧ (∀ c ∈ css, c.length = k) ∧ Sl k v css.flatten l.length

theorem drop_flatten {k : Nat} : ∀ (css : List (List V)) (i : Nat) (h : i < css.length), (∀ c ∈ css, c.length = k) → css.flatten.drop (i * k) = css[i] ++ (css.drop (i + 1)).flatten
  | c :: css, 0, _, _ => by simp
  | c :: css, i + 1, h, hc => by
    have h1 := hc c (by simp)
    rw [Nat.succ_mul, Nat.add_comm, ← List.drop_drop, List.flatten_cons, ← h1, List.drop_left, h1]
    simpa using drop_flatten css i (by simpa using h) (fun c hc' => hc c (by simp [hc']))

namespace Arr
variable {α : Type} {k : Nat} {R : α → List V → Prop} {v : V} {l : List α}
theorem lens (h : Arr k R v l) : lensV v = some (.int .i64 l.length) := by obtain ⟨_, _, _, _, h⟩ := h; exact h.lens
theorem closed (h : Arr k R v l) : closedV v = true := by obtain ⟨_, _, _, _, h⟩ := h; exact h.closed
theorem one (h : Arr k R v l) : oneC v = true := by obtain ⟨_, _, _, _, h⟩ := h; exact h.one
theorem le (h : Arr k R v l) : l.length ≤ top := by obtain ⟨_, _, _, _, h⟩ := h; exact h.1
theorem iadr (h : Arr k R v l) {i : Nat} (hi : i < l.length) : ∃ c rest, R l[i] c ∧ c.length = k ∧ iadrV k v (.int .i64 i) = some (.rptr (c ++ rest)) := by
  obtain ⟨css, h1, h2, h3, h4⟩ := h
  exact ⟨css[i], _, h2 i hi (by omega), h3 _ (List.getElem_mem _), by rw [h4.iadr hi, drop_flatten css i (by omega) h3]⟩
end Arr

@[simp] theorem fadrV_rptr {off : Nat} {cs : List V} : fadrV off (.rptr cs) = some (.rptr (cs.drop off)) := nrfl
theorem ldV_rptr {H : Heap} {cs : List V} {k : Nat} {ag : Bool} (h : k ≤ cs.length) : ldV H (.rptr cs) k ag = packV ag (cs.take k) := by simp [ldV, rd, h]
@[simp] theorem ldV_one {H : Heap} {c : V} {rest : List V} : ldV H (.rptr (c :: rest)) 1 false = some c := by simp [ldV, rd, packV]
@[simp] theorem ldrV_one {c : V} {rest : List V} : ldrV (.rptr (c :: rest)) 1 false = some c := by simp [ldrV, rdr, packV]
theorem ldV_all {H : Heap} {c rest : List V} {k : Nat} (h : c.length = k) : ldV H (.rptr (c ++ rest)) k true = some (.agg c) := by
  rw [ldV_rptr (by simp [h])]; simp [packV, ← h]
end Go.Eng
