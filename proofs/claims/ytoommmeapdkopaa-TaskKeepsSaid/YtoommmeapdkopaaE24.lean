/-
  ENGINE, part 24: a row's arguments, as the interpreter has them.
-/
import Derived.Test.YtoommmeapdkopaaE23
import GoSem.ClaimChange
namespace Go.Eng

inductive Ty where
  | bool | int (k : IntKind) | str | sl (e : Ty) | pair (a b : Ty)
abbrev Ty.D : Ty → Type
  | .bool => Bool
  | .int _ => Int
  | .str => List UInt8
  | .sl e => List e.D
  | .pair a b => a.D × b.D
def Ty.size : Ty → Nat
  | .pair a b => a.size + b.size
  | _ => 1
def Ty.R : (τ : Ty) → τ.D → List V → Prop
  | .bool, b, c => c = [.bool b]
  | .int k, n, c => c = [.int k n] ∧ k.min ≤ n ∧ n ≤ k.max
  | .str, s, c => c = [.str s] ∧ s.length ≤ top
  | .sl e, l, c => ∃ v, c = [v] ∧ Arr e.size e.R v l
  | .pair a b, x, c => ∃ c1 c2, c = c1 ++ c2 ∧ a.R x.1 c1 ∧ b.R x.2 c2

theorem Ty.size_pos : ∀ τ : Ty, 0 < τ.size
  | .bool | .int _ | .str | .sl _ => Nat.one_pos
  | .pair a b => Nat.lt_of_lt_of_le (Ty.size_pos a) (Nat.le_add_right _ _)

def fitsFs (P : Program) (g : Ty → TypeId → Bool) : Ty → Nat → List Field → Bool
  | _, _, [] => false
  | τ, off, x :: r => match r with
    | [] => x.offset == off && (P.cellsOf x.type == τ.size && g τ x.type)
    | y :: r => match τ with
      | .pair a b => x.offset == off && (P.cellsOf x.type == a.size && (g a x.type && fitsFs P g b (off + a.size) (y :: r)))
      | _ => false
def fits (P : Program) : Nat → Ty → TypeId → Bool
  | 0, _, _ => false
  | f + 1, τ, t => match P.underlying t with
    | some .bool => match τ with | .bool => true | _ => false
    | some (.int k) => match τ with | .int k' => k == k' | _ => false
    | some .string => match τ with | .str => true | _ => false
    | some (.slice e) => match τ with | .sl τ => P.cellsOf e == τ.size && fits P f τ e | _ => false
    | some (.struct fs) => P.cellsOf t == τ.size && fitsFs P (fits P f) τ 0 fs.toList
    | _ => false

def Cells (w : World) (l : List V) (cs : List Value) : Prop := cs.length = l.length ∧ ∀ i (h : i < l.length), RR (fun b => b < w.heap.size) w l[i] (cs.getD i undef) ∧ (cs.getD i undef).oneCell' = true

section
variable {H : Type} {enc : TypeId × Value → H} {P : Program} {w : World} {spare : Nat → Bool} {held : Bool}

theorem mapM_get {α β : Type} {f : α → Option β} : ∀ {l : List α} {r : List β}, l.mapM f = some r → r.length = l.length ∧ ∀ i (h : i < l.length), ∃ y, f l[i] = some y ∧ r[i]? = some y
  | [], r, h => by simp at h; subst h; simp
  | x :: l, r, h => by
    rw [List.mapM_cons] at h
    simp only [Option.bind_eq_bind, Option.bind_eq_some_iff, Option.pure_def, Option.some.injEq] at h
    obtain ⟨y, hy, ys, hys, rfl⟩ := h
    obtain ⟨h1, h2⟩ := mapM_get hys
    refine ⟨by simp [h1], fun i hi => ?_⟩
    cases i with
    | zero => exact ⟨y, hy, rfl⟩
    | succ i => simpa using h2 i (by simpa using hi)

theorem cells_get {a : Addr} {n : Nat} {cs : List Value} (h : w.cells? 0 a n = some cs) : cs.length = n ∧ ∀ i, i < n → w.cell? (a.add i) = some (cs.getD i undef) := by
  unfold World.cells? at h
  rw [if_pos (Nat.zero_le _)] at h
  obtain ⟨h1, h2⟩ := mapM_get h
  refine ⟨by simpa using h1, fun i hi => ?_⟩
  obtain ⟨y, hy, hr⟩ := h2 i (by simpa using hi)
  rw [List.getElem_range] at hy
  rw [hy, List.getD_eq_getElem?_getD, hr]; rfl

theorem cell_lt {a : Addr} {u : Value} (h : w.cell? a = some u) : a.block < w.heap.size ∧ a.spot = none := by
  unfold World.cell? at h
  split at h
  · rename_i hh
    refine ⟨(Array.getElem?_eq_some_iff.1 hh).1, ?_⟩
    split at h
    · cases h
    · rename_i hs; simpa using hs
  · cases h

theorem flatten_get {k : Nat} (hk : 0 < k) : ∀ (css : List (List V)), (∀ c ∈ css, c.length = k) → ∀ i (h : i < css.flatten.length), ∃ (h1 : i / k < css.length) (h2 : i % k < css[i / k].length), css.flatten[i] = css[i / k][i % k]
  | [], _, i, h => by simp at h
  | c :: css, hc, i, h => by
    have hl := hc c (by simp)
    by_cases hi : i < k
    · have e1 : i / k = 0 := Nat.div_eq_of_lt hi
      have e2 : i % k = i := Nat.mod_eq_of_lt hi
      refine ⟨by simp [e1], by simp [e1, e2, hl, hi], ?_⟩
      simp only [e1, e2, List.flatten_cons, List.getElem_cons_zero]
      rw [List.getElem_append_left (by omega)]
    · have hge : k ≤ i := by omega
      obtain ⟨h1, h2, h3⟩ := flatten_get hk css (fun c hc' => hc c (by simp [hc'])) (i - k) (by simp only [List.flatten_cons, List.length_append, hl] at h; omega)
      have e1 : i / k = (i - k) / k + 1 := by rw [Nat.div_eq_sub_div hk hge]
      have e2 : i % k = (i - k) % k := by rw [Nat.mod_eq_sub_mod hge]
      refine ⟨by simp [e1]; omega, by simp only [e1, e2, List.getElem_cons_succ]; exact h2, ?_⟩
      simp only [e1, e2, List.getElem_cons_succ]
      rw [← h3]
      simp only [List.flatten_cons]
      rw [List.getElem_append_right (by omega)]
      simp [hl]

theorem take_getD (cs : List Value) (a n i : Nat) (h : i < n) : ((cs.drop a).take n).getD i undef = cs.getD (a + i) undef := by
  simp only [List.getD_eq_getElem?_getD, List.getElem?_take_of_lt h, List.getElem?_drop]

theorem Cells.app {l1 l2 : List V} {cs : List Value} (h1 : Cells w l1 (cs.take l1.length)) (h2 : Cells w l2 (cs.drop l1.length)) (hl : l1.length ≤ cs.length) : Cells w (l1 ++ l2) cs := by
  refine ⟨by have := h2.1; simp only [List.length_drop] at this; simp; omega, fun i hi => ?_⟩
  by_cases h : i < l1.length
  · have := h1.2 i h
    rw [List.getElem_append_left h]
    have e : (cs.take l1.length).getD i undef = cs.getD i undef := by have := take_getD cs 0 l1.length i h; simpa using this
    rwa [e] at this
  · have hi2 : i - l1.length < l2.length := by simp at hi; omega
    have := h2.2 (i - l1.length) hi2
    rw [List.getElem_append_right (by omega)]
    have e : (cs.drop l1.length).getD (i - l1.length) undef = cs.getD i undef := by
      simp only [List.getD_eq_getElem?_getD, List.getElem?_drop]; congr 2; omega
    rwa [e] at this

def Shows (w : World) (τ : Ty) (cs : List Value) : Prop := ∃ (x : τ.D) (l : List V), τ.R x l ∧ l.length = τ.size ∧ Cells w l cs

theorem Cells.one {v : V} {u : Value} (h : RR (fun b => b < w.heap.size) w v u) (h1 : u.oneCell' = true) : Cells w [v] [u] := by
  refine ⟨rfl, fun i hi => ?_⟩
  match i, hi with
  | 0, _ => exact ⟨h, h1⟩

theorem fields_shows {g : Ty → TypeId → Bool} {tr : TypeId → List Value → Option (DataW H × List MemPlace)} (ih : ∀ τ t cs y, g τ t = true → tr t cs = some y → Shows w τ cs) :
    ∀ (fs : List Field) (τ : Ty) (off : Nat) (cs : List Value) (ys : List (DataW H × List MemPlace)), fitsFs P g τ off fs = true → fs.mapM (fun f => tr f.type ((cs.drop f.offset).take (P.cellsOf f.type))) = some ys → cs.length = off + τ.size → Shows w τ (cs.drop off)
  | [], τ, off, cs, ys, hf, _, _ => by simp [fitsFs] at hf
  | [x], τ, off, cs, ys, hf, hm, hl => by
    simp only [fitsFs, Bool.and_eq_true, beq_iff_eq] at hf
    obtain ⟨rfl, hc, hg⟩ := hf
    rw [List.mapM_cons] at hm
    simp only [Option.bind_eq_bind, Option.bind_eq_some_iff] at hm
    obtain ⟨y, hy, _⟩ := hm
    have := ih τ x.type _ y hg hy
    rwa [hc, List.take_of_length_le (by simp; omega)] at this
  | x :: y :: r, τ, off, cs, ys, hf, hm, hl => by
    cases τ <;> simp only [fitsFs, Bool.false_eq_true] at hf
    rename_i a b
    simp only [Bool.and_eq_true, beq_iff_eq] at hf
    obtain ⟨rfl, hc, hg, hr⟩ := hf
    rw [List.mapM_cons] at hm
    simp only [Option.bind_eq_bind, Option.bind_eq_some_iff] at hm
    obtain ⟨z, hz, zs, hzs, _⟩ := hm
    have h1 := ih a x.type _ z hg hz
    simp only [Ty.size] at hl
    have h2 := fields_shows ih (y :: r) b (x.offset + a.size) cs zs hr hzs (by omega)
    obtain ⟨x1, l1, q1, q2, q3⟩ := h1
    obtain ⟨x2, l2, p1, p2, p3⟩ := h2
    rw [hc] at q3
    refine ⟨(x1, x2), l1 ++ l2, ⟨l1, l2, rfl, q1, p1⟩, by simp [Ty.size, q2, p2], Cells.app ?_ ?_ ?_⟩
    · rw [q2]; exact q3
    · rw [q2, List.drop_drop]; exact p3
    · simp; omega

theorem elems_shows {τ : Ty} {a : Addr} {len : Nat} (hlen : len ≤ top) (h : ∀ i, i < len → ∃ cs, w.cells? 0 (a.add (i * τ.size)) τ.size = some cs ∧ Shows w τ cs) :
    ∃ (l : List τ.D) (v : V), Arr τ.size τ.R v l ∧ ∀ c, len ≤ c → RR (fun b => b < w.heap.size) w v (.slice (some a) len c) := by
  by_cases h0 : len = 0
  · subst h0
    exact ⟨[], .e0, ⟨[], rfl, fun i hi => absurd hi (by simp), by simp, by simp [top], by simp, .inr ⟨rfl, .inr (.inr rfl)⟩⟩, fun c _ => .e0 a c⟩
  have hk := τ.size_pos
  have hch : ∀ i : Fin len, ∃ p : τ.D × List V, τ.R p.1 p.2 ∧ p.2.length = τ.size ∧ ∀ j (hj : j < p.2.length), ∃ u, w.cell? ((a.add (i * τ.size)).add j) = some u ∧ RR (fun b => b < w.heap.size) w p.2[j] u ∧ u.oneCell' = true := fun i => by
    obtain ⟨cs, hc, x, l, q1, q2, q3⟩ := h i i.2
    obtain ⟨c1, c2⟩ := cells_get hc
    exact ⟨(x, l), q1, q2, fun j hj => ⟨_, c2 j (by have : j < l.length := hj; omega), q3.2 j hj⟩⟩
  let F := fun i => Classical.choose (hch i)
  have hF := fun i => Classical.choose_spec (hch i)
  let xs : List τ.D := List.ofFn fun i => (F i).1
  let css : List (List V) := List.ofFn fun i => (F i).2
  have hcl : css.length = len := by simp [css]
  have hck : ∀ c ∈ css, c.length = τ.size := fun c hc => by
    obtain ⟨i, hi, rfl⟩ := List.mem_iff_getElem.1 hc
    simp only [css, List.getElem_ofFn]
    exact (hF _).2.1
  have hfl : css.flatten.length = len * τ.size := by
    have : ∀ (l : List (List V)), (∀ c ∈ l, c.length = τ.size) → l.flatten.length = l.length * τ.size := by
      intro l
      induction l with
      | nil => simp
      | cons c l ih => intro hc; rw [List.flatten_cons, List.length_append, hc c (by simp), ih (fun c hc' => hc c (by simp [hc'])), List.length_cons, Nat.succ_mul]; omega
    rw [this css hck, hcl]
  have hspot : a.spot = none ∧ a.block < w.heap.size := by
    obtain ⟨u, hu, _⟩ := (hF ⟨0, by omega⟩).2.2 0 (by rw [(hF ⟨0, by omega⟩).2.1]; exact hk)
    have := cell_lt hu
    simp [Addr.add] at this
    exact ⟨this.2, this.1⟩
  have hadd : ∀ n m : Nat, (a.add n).add m = ⟨a.block, a.off + (n + m), none⟩ := fun n m => by
    obtain ⟨b, o, sp⟩ := a
    obtain ⟨rfl, _⟩ := hspot
    unfold Addr.add
    split <;> split <;> simp_all <;> omega
  refine ⟨xs, .ro css.flatten len, ⟨css, by simp [xs, css], fun i h1 h2 => ?_, hck, ?_⟩, fun c hc => ?_⟩
  · simp only [xs, css, List.getElem_ofFn]; exact (hF _).1
  · have : xs.length = len := by simp [xs]
    rw [this]; exact ⟨hlen, hfl, .inl rfl⟩
  · have key : ∀ i (h : i < css.flatten.length), ∃ u, w.cell? ⟨a.block, a.off + i, none⟩ = some u ∧ RR (fun b => b < w.heap.size) w css.flatten[i] u ∧ u.oneCell' = true := fun i h => by
      obtain ⟨h1, h2, h3⟩ := flatten_get hk css hck i h
      have hi : i / τ.size < len := by omega
      have h2' : i % τ.size < (F ⟨i / τ.size, hi⟩).2.length := by rw [(hF _).2.1]; exact Nat.mod_lt _ hk
      obtain ⟨u, hu, hr, ho⟩ := (hF ⟨i / τ.size, hi⟩).2.2 (i % τ.size) h2'
      refine ⟨u, ?_, ?_, ho⟩
      · rw [hadd] at hu
        have : i / τ.size * τ.size + i % τ.size = i := by rw [Nat.mul_comm]; exact Nat.div_add_mod ..
        rw [this] at hu; exact hu
      · rw [h3]
        have : css[i / τ.size] = (F ⟨i / τ.size, hi⟩).2 := by simp [css]
        simp only [this]; exact hr
    refine .ro (fun i => (w.cell? ⟨a.block, a.off + i, none⟩).getD undef) hspot.2 hspot.1 hc (fun i h => ?_) (fun i h => ?_) (fun i h => ?_)
    · obtain ⟨u, hu, _⟩ := key i h; rw [hu]; rfl
    · obtain ⟨u, hu, _, ho⟩ := key i h; rw [hu]; exact ho
    · obtain ⟨u, hu, hr, _⟩ := key i h; rw [hu]; exact hr

theorem trod_shows : ∀ (f : Nat) (τ : Ty) (t : TypeId) (n : Nat) (cs : List Value) (y : DataW H × List MemPlace), fits P f τ t = true → DataW.trod enc P w 0 spare held n t cs = some y → Shows w τ cs
  | 0, _, _, _, _, _, hf, _ => by simp [fits] at hf
  | f + 1, τ, t, 0, cs, y, hf, h => by simp [DataW.trod] at h
  | f + 1, τ, t, n + 1, cs, y, hf, h => by
    unfold fits at hf
    unfold DataW.trod at h
    split at hf
    · rename_i hu
      cases τ <;> simp only [Bool.false_eq_true] at hf
      simp only [hu] at h
      split at h
      all_goals first | (rename_i heq; cases heq; done) | (cases h; done) | skip
      rename_i b heq
      exact ⟨b, [.bool b], rfl, rfl, .one (.bool b) rfl⟩
    · rename_i hu
      cases τ <;> simp only [Bool.false_eq_true] at hf
      simp only [hu] at h
      split at h
      all_goals first | (rename_i heq; cases heq; done) | (cases h; done) | skip
      rename_i k k' m heq
      cases heq
      split at h
      case isFalse => cases h
      rename_i hc
      obtain ⟨rfl, hwf⟩ := hc
      simp only [beq_iff_eq] at hf
      subst hf
      simp only [Lit.wf, Bool.and_eq_true, decide_eq_true_eq] at hwf
      exact ⟨m, [.int k' m], ⟨rfl, hwf.1, hwf.2⟩, rfl, .one (.int _ _) rfl⟩
    · rename_i hu
      cases τ <;> simp only [Bool.false_eq_true] at hf
      simp only [hu] at h
      split at h
      all_goals first | (rename_i heq; cases heq; done) | (cases h; done) | skip
      rename_i s heq
      split at h
      case isFalse => cases h
      rename_i hc
      refine ⟨s.data.toList, [.str s.data.toList], ⟨rfl, ?_⟩, rfl, .one (.str s) rfl⟩
      have : s.data.toList.length = s.size := by rw [Array.length_toList]; rfl
      rw [this]; exact hc
    · rename_i e hu
      cases τ <;> simp only [Bool.false_eq_true] at hf
      rename_i τ
      simp only [Bool.and_eq_true, beq_iff_eq] at hf
      obtain ⟨hce, hfe⟩ := hf
      simp only [hu] at h
      split at h
      all_goals first | (rename_i heq; cases heq; done) | (cases h; done) | skip
      · exact ⟨[], [.nils], ⟨.nils, rfl, [], rfl, fun i hi => absurd hi (by simp), by simp, by simp [top], by simp, .inr ⟨rfl, .inl rfl⟩⟩, rfl, .one .nils rfl⟩
      · rename_i e' a len cap heq
        cases heq
        rw [hce] at h
        split at h
        case isFalse => cases h
        rename_i hc
        simp only [Option.bind_eq_some_iff] at h
        obtain ⟨elems, hel, _⟩ := h
        obtain ⟨h1, h2⟩ := mapM_get hel
        obtain ⟨l, v, q1, q2⟩ := elems_shows (w := w) (τ := τ) (a := a) (len := len) (by unfold top; have := hc.2.2; unfold maxLen at this; omega) (fun i hi => by
          obtain ⟨z, hz, _⟩ := h2 i (by simpa using hi)
          rw [List.getElem_range] at hz
          simp only [Option.bind_eq_some_iff] at hz
          obtain ⟨ci, hci, htr⟩ := hz
          exact ⟨ci, hci, trod_shows f τ e n ci z hfe htr⟩)
        exact ⟨l, [v], ⟨v, rfl, q1⟩, rfl, .one (q2 cap hc.2.1) rfl⟩
    · rename_i fs hu
      simp only [Bool.and_eq_true, beq_iff_eq] at hf
      obtain ⟨hsz, hff⟩ := hf
      simp only [hu] at h
      split at h
      all_goals first | (rename_i heq; cases heq; done) | (cases h; done) | skip
      simp only [Option.map_eq_some_iff] at h
      obtain ⟨ys, hys, _⟩ := h
      have := fields_shows (w := w) (tr := DataW.trod enc P w 0 spare held n) (g := fits P f) (fun τ t cs y hg ht => trod_shows f τ t n cs y hg ht) fs.toList τ 0 cs ys hff hys (by omega)
      simpa using this
    · simp at hf
end

def Ty.V : (τ : Ty) → τ.D → V → Prop
  | .bool, x, v => Ty.R .bool x [v]
  | .int k, x, v => Ty.R (.int k) x [v]
  | .str, x, v => Ty.R .str x [v]
  | .sl e, x, v => Ty.R (.sl e) x [v]
  | .pair a b, x, v => ∃ l, v = .agg l ∧ Ty.R (.pair a b) x l
def ArgS (w : World) (τ : Ty) (x : τ.D) (v : V) (u : Value) : Prop := RR (fun b => b < w.heap.size) w v u ∧ τ.V x v

theorem arg_struct {H : Type} {enc : TypeId × Value → H} {P : Program} {w : World} {spare : Nat → Bool} {held : Bool} {f : Nat} {a b : Ty} {t : TypeId} (hf : fits P f (.pair a b) t = true) {cs : Array Value} {d : DataW H} {ps : List MemPlace}
    (h : DataW.Trod enc P w 0 spare held t (.agg cs) d ps) : ∃ x v, ArgS w (.pair a b) x v (.agg cs) := by
  obtain ⟨n, h⟩ := h
  obtain ⟨x, l, h1, h2, h3⟩ := trod_shows f _ t n _ _ hf h
  refine ⟨x, .agg l, .agg ?_ (fun i hi => ?_) (fun i hi => ?_), l, rfl, h1⟩
  · simpa [Value.cells] using h3.1
  · have := (h3.2 i hi).2
    simpa [Value.cells] using this
  · have := (h3.2 i hi).1
    simpa [Value.cells] using this
end Go.Eng
