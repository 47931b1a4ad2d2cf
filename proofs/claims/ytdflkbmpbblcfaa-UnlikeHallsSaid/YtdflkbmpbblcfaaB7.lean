/- The texts FuA, FuB, FuC, FuD, PuL, ShS, FuE of the workplace, joined. -/
import Derived.Test.YtdflkbmpbblcfaaB6
import Derived.Shelf.Sort.Plain
import Derived.Shelf.Slices.In.SortNone
import Derived.Test.YtdflkbmpbblcfaaProg
import Derived.Sort.OwnSortedInts
/-! Contracts: who takes whose value. -/
namespace Go.Proofs.Ytdflkbmpbblcfaa
open Go Go.RowKit
set_option linter.unusedVariables false
set_option linter.unusedSimpArgs false
set_option maxRecDepth 8000

abbrev Seen := List (Int × Bool)
abbrev By := List (Int × Int)
/-- Values tried in turn. -/
def tryL (rec : Seen → By → Int → Bool × Seen × By) (i : Int) : List Int → Seen → By → Bool × Seen × By
  | [], s, b => (false, s, b)
  | v :: vs, s, b => if (lkA s v).getD false = true then tryL rec i vs s b else
    match lkA b v with
    | none => (true, upA s v true, upA b v i)
    | some k => match rec (upA s v true) b k with
      | (true, s2, b2) => (true, s2, upA b2 v i)
      | (false, s2, b2) => tryL rec i vs s2 b2
def tryF (l : List (List Int)) : Nat → Int → Seen → By → Bool × Seen × By
  | 0, _, s, b => (false, s, b)
  | f + 1, i, s, b => tryL (fun s b k => tryF l f k s b) i (l.getD i.toNat []) s b
/-- How many values have not been tried. -/
def unseen (l : List (List Int)) (s : Seen) : Nat := (l.flatten.filter fun v => !(lkA s v).getD false).length
def mpS (s : Seen) : Own := .mp true none (s.map fun p => (Value.int .i64 p.1, PV.bool p.2))
def mpB (b : By) : Own := .mp true none (b.map fun p => (Value.int .i64 p.1, PV.int .i64 p.2))
def ByIn (l : List (List Int)) (b : By) : Prop := ∀ p ∈ b, 0 ≤ p.2 ∧ p.2.toNat < l.length
theorem fi_cons {α β : Type} [DecidableEq α] (p : α × β) (l : List (α × β)) (a : α) : fiA (p :: l) a = if p.1 = a then some 0 else (fiA l a).map (· + 1) := by
  unfold fiA
  rw [List.findIdx?_cons]
  by_cases h : p.1 = a
  · simp [h]
  · simp [h]
theorem lk_nil {α β : Type} [DecidableEq α] (a : α) : lkA ([] : List (α × β)) a = none := rfl
theorem lkA_cons {α β : Type} [DecidableEq α] (p : α × β) (l : List (α × β)) (a : α) : lkA (p :: l) a = if p.1 = a then some p.2 else lkA l a := by
  unfold lkA
  rw [fi_cons]
  by_cases h : p.1 = a
  · rw [if_pos h, if_pos h]; rfl
  · rw [if_neg h, if_neg h]
    cases fiA l a <;> simp
theorem up_cons {α β : Type} [DecidableEq α] (p : α × β) (l : List (α × β)) (a : α) (b : β) : upA (p :: l) a b = if p.1 = a then (a, b) :: l else p :: upA l a b := by
  unfold upA
  rw [fi_cons]
  by_cases h : p.1 = a
  · rw [if_pos h, if_pos h]; rfl
  · rw [if_neg h, if_neg h]
    cases fiA l a <;> simp
theorem lk_up {α β : Type} [DecidableEq α] (a c : α) (b : β) : ∀ l : List (α × β), lkA (upA l a b) c = if a = c then some b else lkA l c
  | [] => by
    show lkA [(a, b)] c = _
    exact lkA_cons (a, b) [] c
  | p :: l => by
    rw [up_cons, lkA_cons]
    by_cases h : p.1 = a
    · rw [if_pos h, lkA_cons]
      by_cases e : a = c
      · rw [if_pos e, if_pos e]
      · rw [if_neg e, if_neg e, if_neg (fun h2 => e (h.symm.trans h2))]
    · rw [if_neg h, lkA_cons, lk_up a c b l]
      by_cases e : p.1 = c
      · rw [if_pos e, if_pos e, if_neg (fun h2 => h (e.trans h2.symm))]
      · rw [if_neg e, if_neg e]
theorem mem_upA {α β : Type} [DecidableEq α] {a : α} {b : β} {p : α × β} : ∀ {l : List (α × β)}, p ∈ upA l a b → p ∈ l ∨ p = (a, b)
  | [], h => .inr (by simpa [upA, fiA] using h)
  | q :: l, h => by
    rw [up_cons] at h
    split at h
    · rcases List.mem_cons.1 h with h | h
      · exact .inr h
      · exact .inl (.tail _ h)
    · rcases List.mem_cons.1 h with h | h
      · exact .inl (h ▸ .head _)
      · rcases mem_upA h with h | h
        · exact .inl (.tail _ h)
        · exact .inr h
theorem ByIn.up {l : List (List Int)} {b : By} (h : ByIn l b) {v i : Int} (h0 : 0 ≤ i) (hi : i.toNat < l.length) : ByIn l (upA b v i) := fun p hp => by
  rcases mem_upA hp with hp | rfl
  · exact h p hp
  · exact ⟨h0, hi⟩
theorem lk_mem {α β : Type} [DecidableEq α] {a : α} {b : β} : ∀ {l : List (α × β)}, lkA l a = some b → (a, b) ∈ l
  | [], h => by cases h
  | p :: l, h => by
    rw [lkA_cons] at h
    split at h
    · rename_i e
      obtain rfl := Option.some.inj h
      subst e; exact .head _
    · exact .tail _ (lk_mem h)
def sees (s : Seen) (v : Int) : Prop := (lkA s v).getD false = true
/-- What is tried stays tried; who has what is right. -/
structure TryOk (l : List (List Int)) (s : Seen) (R : Bool × Seen × By) : Prop where
  seen : ∀ v, sees s v → sees R.2.1 v
  byIn : ByIn l R.2.2
theorem sees_up {s : Seen} {v w : Int} : sees (upA s v true) w ↔ v = w ∨ sees s w := by
  unfold sees
  rw [lk_up]
  by_cases e : v = w
  · simp [e]
  · simp [e]
theorem tryL_ok {l : List (List Int)} {rec : Seen → By → Int → Bool × Seen × By} {i : Int} (h0 : 0 ≤ i) (hi : i.toNat < l.length) (hr : ∀ s b k, ByIn l b → 0 ≤ k → k.toNat < l.length → TryOk l s (rec s b k)) : ∀ (vs : List Int) (s : Seen) (b : By), ByIn l b → TryOk l s (tryL rec i vs s b)
  | [], s, b, hb => ⟨fun _ h => h, hb⟩
  | v :: vs, s, b, hb => by
    rw [tryL]
    split
    · exact tryL_ok h0 hi hr vs s b hb
    · split
      · exact ⟨fun w hw => sees_up.2 (.inr hw), hb.up h0 hi⟩
      · rename_i k hk
        have hk2 := hb _ (lk_mem hk)
        have h1 := hr (upA s v true) b k hb hk2.1 hk2.2
        split
        · rename_i s2 b2 e
          rw [e] at h1
          exact ⟨fun w hw => h1.seen w (sees_up.2 (.inr hw)), h1.byIn.up h0 hi⟩
        · rename_i s2 b2 e
          rw [e] at h1
          have h2 := tryL_ok h0 hi hr vs s2 b2 h1.byIn
          exact ⟨fun w hw => h2.seen w (h1.seen w (sees_up.2 (.inr hw))), h2.byIn⟩
theorem tryF_ok (l : List (List Int)) : ∀ (f : Nat) (i : Int) (s : Seen) (b : By), 0 ≤ i → i.toNat < l.length → ByIn l b → TryOk l s (tryF l f i s b)
  | 0, i, s, b, _, _, hb => ⟨fun _ h => h, hb⟩
  | f + 1, i, s, b, h0, hi, hb => by
    rw [tryF]
    exact tryL_ok h0 hi (fun s b k hb h1 h2 => tryF_ok l f k s b h1 h2 hb) _ _ _ hb
theorem filter_len_le {α : Type} {p q : α → Bool} : ∀ (l : List α), (∀ x, q x = true → p x = true) → (l.filter q).length ≤ (l.filter p).length
  | [], _ => Nat.le_refl _
  | x :: l, h => by
    have := filter_len_le l h
    by_cases hq : q x = true
    · rw [List.filter_cons_of_pos hq, List.filter_cons_of_pos (h x hq)]; simpa using this
    · rw [List.filter_cons_of_neg hq]
      by_cases hp : p x = true
      · rw [List.filter_cons_of_pos hp]; simp; omega
      · rw [List.filter_cons_of_neg hp]; exact this
theorem unseen_le {l : List (List Int)} {s s2 : Seen} (h : ∀ v, sees s v → sees s2 v) : unseen l s2 ≤ unseen l s := by
  refine filter_len_le _ fun v hv => ?_
  by_cases hs : sees s v
  · have := h v hs
    unfold sees at this
    simp [this] at hv
  · unfold sees at hs
    simpa using hs
theorem unseen_lt {l : List (List Int)} {s : Seen} {v : Int} (hv : v ∈ l.flatten) (hs : ¬ sees s v) : unseen l (upA s v true) < unseen l s := by
  refine filter_lt _ v (fun w hw => ?_) hv ?_ ?_
  · by_cases h : sees s w
    · have : sees (upA s v true) w := sees_up.2 (.inr h)
      unfold sees at this
      simp [this] at hw
    · unfold sees at h; simpa using h
  · unfold sees at hs; simpa using hs
  · have : sees (upA s v true) v := sees_up.2 (.inl rfl)
    unfold sees at this
    simp [this]
abbrev fnTry (p2 p5 p6 : Value) : PV := .fn (.func 54) [] [.raw p2, .raw p5, .raw p6]
theorem zeroB (w : World) : (zeroValue 4).run Try.prog w = .ok (.bool false) w := by kernel_rfl
theorem zeroI (w : World) : (zeroValue 3).run Try.prog w = .ok (.int .i64 0) w := by kernel_rfl
theorem try_spec (l : List (List Int)) (hl : l.length * 24 ≤ 140737488355328) (hx : ∀ x ∈ l, x.length * 8 ≤ 140737488355328) : ∀ (f : Nat) (i : Int) (s : Seen) (b : By) (p2 p5 p6 pm pb ps : Value), unseen l s < f → 0 ≤ i → i.toNat < l.length → ByIn l b →
    SpecO Try.prog 54 false [p2, p5, p6, pm, pb, ps] [.box true [.raw pm], .box true [.raw ps], .box true [fnTry p2 p5 p6], .box true [lists l, .raw pb], mpB b, mpS s] [.int .i64 i, .raw p2, .raw p5, .raw p6]
      [.box true [.raw pm], .box true [.raw ps], .box true [fnTry p2 p5 p6], .box true [lists l, .raw pb], mpB (tryF l f i s b).2.2, mpS (tryF l f i s b).2.1] (fun _ => []) (fun _ => [.bool (tryF l f i s b).1]) := by
  intro f
  induction f with
  | zero => intro i s b _ _ _ _ _ _ h; omega
  | succ f ihf =>
    intro i s0 b0 p2 p5 p6 pm pb ps hf h0 hi hb0
    have hrow : (l.map cL)[i.toNat]? = some (cL (l.getD i.toNat [])) := by simp [hi]
    have hgl : (l.getD i.toNat []).length * 8 ≤ 140737488355328 := by
      rw [List.getD_eq_getElem?_getD, List.getElem?_eq_getElem hi]; exact hx _ (List.getElem_mem hi)
    have hgm : ∀ v ∈ l.getD i.toNat [], v ∈ l.flatten := by
      rw [List.getD_eq_getElem?_getD, List.getElem?_eq_getElem hi]
      exact fun v hv => List.mem_flatten.2 ⟨_, List.getElem_mem hi, hv⟩
    rw [tryF]
    generalize l.getD i.toNat [] = vs at *
    generalize hR : tryL (fun s b k => tryF l f k s b) i vs s0 b0 = R
    refine SpecO.body [1001, 1002, 1003, 1004, 1005, 1006] [] Try.func54 rfl rfl rfl rfl fun w0 Z1 => ?_
    refine T.sub (Rel.derawp (s := 1) (g := 1001) rfl rfl rfl) ?_
    refine T.sub (Rel.derawp (s := 2) (g := 1002) rfl rfl rfl) ?_
    refine T.sub (Rel.derawp (s := 3) (g := 1003) rfl rfl rfl) ?_
    refine T.sub (Rel.fine (s := 0) rfl rfl) ?_
    repeat' ((first | refine T.G rfl ?_ | refine J.G rfl ?_ | refine J.H rfl ?_ | refine T.rd rfl (by decide +kernel) ?_ | fail); conv => whnf)
    refine J.sub (Rel.derawp (s := 10) (g := 1004) rfl rfl rfl) ?_
    repeat' ((first | refine T.G rfl ?_ | refine J.G rfl ?_ | refine J.H rfl ?_ | refine T.rd rfl (by decide +kernel) ?_ | fail); conv => whnf)
    refine J.i rfl rfl rfl rfl rfl rfl rfl rfl rfl (r := cL vs) h0 hrow rfl ?_
    repeat' ((first | refine T.G rfl ?_ | refine J.G rfl ?_ | refine J.H rfl ?_ | refine T.rd rfl (by decide +kernel) ?_ | fail); conv => whnf)
    refine T.canon (keep := [0, 1, 2, 3, 16, 17, 18, 1001, 1002, 1003, 1004, 1005, 1006]) (os := [1, 2, 3, 1004, 1005, 1006]) rfl (T.ind (fun x : Nat × Seen × By => ⟨[(0, .val true (.int .i64 i)), (1, .optr 0 0 0 0), (2, .optr 1 0 0 0), (3, .optr 2 0 0 0), (16, .val true (ints vs)), (17, .val true (.int .i64 (vs.map cI).length)), (18, .val true (.int .i64 x.1)), (1001, .eq p2 0), (1002, .eq p5 1), (1003, .eq p6 2), (1004, .eq pm 3), (1005, .eq pb 4), (1006, .eq ps 5)],
        [(0, some (.box true [.raw pm])), (1, some (.box true [.raw ps])), (2, some (.box true [fnTry p2 p5 p6])), (3, some (.box true [lists l, .raw pb])), (4, some (mpB x.2.2)), (5, some (mpS x.2.1))], 6⟩)
      (fun x => x.1 ≤ vs.length ∧ tryL (fun s b k => tryF l f k s b) i (vs.drop x.1) x.2.1 x.2.2 = R ∧ unseen l x.2.1 < f + 1 ∧ ByIn l x.2.2) (fun x => vs.length - x.1) (0, s0, b0) ⟨by simp, hR, hf, hb0⟩ (fun _ _ h => h) ?_)
    rintro ⟨k, s, b⟩ ⟨hk, hR, hu, hb⟩ ih
    simp only at hk hR hu hb
    dsimp only
    repeat' ((first | refine T.G rfl ?_ | refine J.G rfl ?_ | refine J.H rfl ?_ | refine T.rd rfl (by decide +kernel) ?_ | fail); conv => whnf)
    refine T.cd rfl (fun h1 => ?_) (fun h1 => ?_)
    rotate_left
    · have h1 : k = vs.length := by simp at h1; omega
      subst h1
      rw [List.drop_length, tryL] at hR
      subst hR
      repeat' ((first | refine T.G rfl ?_ | refine J.G rfl ?_ | refine J.H rfl ?_ | refine T.rd rfl (by decide +kernel) ?_ | fail); conv => whnf)
      exact ⟨[0, 1, 2, 3, 4, 5], [], [], ⟨rfl, rfl, rfl, rfl, rfl, rfl, rfl, rfl, rfl, rfl, rfl, rfl, rfl, rfl, rfl, rfl, rfl, rfl, trivial⟩, trivial, rfl, .v rfl rfl rfl (fun _ => rfl) .nil⟩
    have h1 : k < vs.length := by simpa using h1
    rw [List.drop_eq_getElem_cons h1, tryL] at hR
    have hvm := hgm _ (List.getElem_mem h1)
    generalize hv : vs[k] = v at *
    have hvr : (vs.map cI)[((k : Nat) : Int).toNat]? = some (cI v) := by rw [← hv]; exact row_i h1
    have next : ∀ s2 b2, tryL (fun s b k => tryF l f k s b) i (vs.drop (k + 1)) s2 b2 = R → unseen l s2 < f + 1 → ByIn l b2 → _ := fun s2 b2 e1 e2 e3 => ih (k + 1, s2, b2) ⟨by omega, e1, e2, e3⟩ (by show _ - _ < _ - _; omega)
    dsimp only at next
    have hw1 : IntKind.i64.wrap ((k : Int) + 1) = ((k + 1 : Nat) : Int) := wrap1 (l := vs.length) h1 hgl
    repeat' ((first | refine T.G rfl ?_ | refine J.G rfl ?_ | refine J.H rfl ?_ | refine T.rd rfl (by decide +kernel) ?_ | fail); conv => whnf)
    refine J.i rfl rfl rfl rfl rfl rfl rfl rfl rfl (r := cI v) (by omega) hvr rfl ?_
    repeat' ((first | refine T.G rfl ?_ | refine J.G rfl ?_ | refine J.H rfl ?_ | refine T.rd rfl (by decide +kernel) ?_ | fail); conv => whnf)
    refine J.sub (Rel.deraw (s := 22) (g := 1006) rfl rfl) ?_
    repeat' ((first | refine T.G rfl ?_ | refine J.G rfl ?_ | refine J.H rfl ?_ | refine T.rd rfl (by decide +kernel) ?_ | fail); conv => whnf)
    refine J.ml v (.bool false) rfl rfl rfl rfl rfl rfl rfl rfl rfl zeroB (fun _ _ => .bool _) (keyI Try.underlying3) (fun _ _ _ h => rep_int h) ?_
    have hmb : ((lkA s v).map PV.bool).getD (.bool false) = .bool ((lkA s v).getD false) := by cases lkA s v <;> rfl
    rw [hmb]
    by_cases hs : (lkA s v).getD false = true
    · rw [if_pos hs] at hR
      rw [hs]
      repeat' ((first | refine T.G rfl ?_ | refine J.G rfl ?_ | refine J.H rfl ?_ | refine T.rd rfl (by decide +kernel) ?_ | fail); conv => whnf)
      refine T.ct rfl ?_
      repeat' ((first | refine T.G rfl ?_ | refine J.G rfl ?_ | refine J.H rfl ?_ | refine T.rd rfl (by decide +kernel) ?_ | fail); conv => whnf)
      rw [hw1]
      exact T.canon (keep := [0, 1, 2, 3, 16, 17, 18, 1001, 1002, 1003, 1004, 1005, 1006]) (os := [1, 2, 3, 1004, 1005, 1006]) rfl (next s b hR hu hb)
    rw [if_neg hs] at hR
    rw [eq_false_of_ne_true hs]
    have hlt := unseen_lt hvm hs
    repeat' ((first | refine T.G rfl ?_ | refine J.G rfl ?_ | refine J.H rfl ?_ | refine T.rd rfl (by decide +kernel) ?_ | fail); conv => whnf)
    refine T.cf rfl ?_
    repeat' ((first | refine T.G rfl ?_ | refine J.G rfl ?_ | refine J.H rfl ?_ | refine T.rd rfl (by decide +kernel) ?_ | fail); conv => whnf)
    refine J.sub (Rel.deraw (s := 25) (g := 1006) rfl rfl) ?_
    repeat' ((first | refine T.G rfl ?_ | refine J.G rfl ?_ | refine J.H rfl ?_ | refine T.rd rfl (by decide +kernel) ?_ | fail); conv => whnf)
    refine J.mu v true rfl rfl rfl rfl rfl rfl rfl rfl rfl rfl rfl (keyI Try.underlying3) (fun _ _ _ h => rep_int h) rfl ?_
    repeat' ((first | refine T.G rfl ?_ | refine J.G rfl ?_ | refine J.H rfl ?_ | refine T.rd rfl (by decide +kernel) ?_ | fail); conv => whnf)
    refine J.sub (Rel.derawp (s := 28) (g := 1004) rfl rfl rfl) ?_
    repeat' ((first | refine T.G rfl ?_ | refine J.G rfl ?_ | refine J.H rfl ?_ | refine T.rd rfl (by decide +kernel) ?_ | fail); conv => whnf)
    refine J.sub (Rel.deraw (s := 31) (g := 1005) rfl rfl) ?_
    repeat' ((first | refine T.G rfl ?_ | refine J.G rfl ?_ | refine J.H rfl ?_ | refine T.rd rfl (by decide +kernel) ?_ | fail); conv => whnf)
    refine J.ml v (.int .i64 0) rfl rfl rfl rfl rfl rfl rfl rfl rfl zeroI (fun _ _ => .int _ _) (keyI Try.underlying3) (fun _ _ _ h => rep_int h) ?_
    cases hk2 : lkA b v with
    | none =>
      rw [hk2] at hR
      simp only at hR
      subst hR
      repeat' ((first | refine T.G rfl ?_ | refine J.G rfl ?_ | refine J.H rfl ?_ | refine T.rd rfl (by decide +kernel) ?_ | fail); conv => whnf)
      refine T.ct rfl ?_
      repeat' ((first | refine T.G rfl ?_ | refine J.G rfl ?_ | refine J.H rfl ?_ | refine T.rd rfl (by decide +kernel) ?_ | fail); conv => whnf)
      refine J.sub (Rel.derawp (s := 43) (g := 1004) rfl rfl rfl) ?_
      repeat' ((first | refine T.G rfl ?_ | refine J.G rfl ?_ | refine J.H rfl ?_ | refine T.rd rfl (by decide +kernel) ?_ | fail); conv => whnf)
      refine J.sub (Rel.deraw (s := 46) (g := 1005) rfl rfl) ?_
      repeat' ((first | refine T.G rfl ?_ | refine J.G rfl ?_ | refine J.H rfl ?_ | refine T.rd rfl (by decide +kernel) ?_ | fail); conv => whnf)
      refine J.mu v i rfl rfl rfl rfl rfl rfl rfl rfl rfl rfl rfl (keyI Try.underlying3) (fun _ _ _ h => rep_int h) rfl ?_
      repeat' ((first | refine T.G rfl ?_ | refine J.G rfl ?_ | refine J.H rfl ?_ | refine T.rd rfl (by decide +kernel) ?_ | fail); conv => whnf)
      exact ⟨[0, 1, 2, 3, 4, 5], [], [], ⟨rfl, rfl, rfl, rfl, rfl, rfl, rfl, rfl, rfl, rfl, rfl, rfl, rfl, rfl, rfl, rfl, rfl, rfl, trivial⟩, trivial, rfl, .v rfl rfl rfl (fun _ => rfl) .nil⟩
    | some q =>
      rw [hk2] at hR
      simp only at hR
      have hq := hb _ (lk_mem hk2)
      have hrec := ihf q (upA s v true) b p2 p5 p6 pm pb ps (by omega) hq.1 hq.2 hb
      have hok := tryF_ok l f q (upA s v true) b hq.1 hq.2 hb
      repeat' ((first | refine T.G rfl ?_ | refine J.G rfl ?_ | refine J.H rfl ?_ | refine T.rd rfl (by decide +kernel) ?_ | fail); conv => whnf)
      refine J.co (qs := [0, 1, 2, 3, 4, 5]) (cs2 := [.box true [.raw pm], .box true [.raw ps], .box true [fnTry p2 p5 p6], .box true [lists l, .raw pb], mpB b, mpS (upA s v true)]) true [1001, 1002, 1003, 1004, 1005, 1006] [] rfl rfl rfl rfl rfl rfl hrec ⟨rfl, rfl, rfl, rfl, rfl, rfl, rfl, rfl, rfl, rfl, rfl, rfl, trivial⟩ rfl rfl rfl rfl rfl rfl rfl fun ns hns => ?_
      obtain rfl : ns = [] := List.eq_nil_of_length_eq_zero hns
      generalize hT : tryF l f q (upA s v true) b = TR at *
      obtain ⟨r, s2, b2⟩ := TR
      have hsu : unseen l s2 < f + 1 := by
        have := unseen_le (l := l) hok.seen
        dsimp only at this
        omega
      have hby : ByIn l b2 := hok.byIn
      dsimp only
      repeat' ((first | refine T.G rfl ?_ | refine J.G rfl ?_ | refine J.H rfl ?_ | refine T.rd rfl (by decide +kernel) ?_ | fail); conv => whnf)
      cases r with
      | false =>
        repeat' ((first | refine T.G rfl ?_ | refine J.G rfl ?_ | refine J.H rfl ?_ | refine T.rd rfl (by decide +kernel) ?_ | fail); conv => whnf)
        refine T.cf rfl ?_
        repeat' ((first | refine T.G rfl ?_ | refine J.G rfl ?_ | refine J.H rfl ?_ | refine T.rd rfl (by decide +kernel) ?_ | fail); conv => whnf)
        rw [hw1]
        exact T.canon (keep := [0, 1, 2, 3, 16, 17, 18, 1001, 1002, 1003, 1004, 1005, 1006]) (os := [1, 2, 3, 1004, 1005, 1006]) rfl (next s2 b2 hR hsu hby)
      | true =>
        simp only at hR
        subst hR
        refine T.ct rfl ?_
        repeat' ((first | refine T.G rfl ?_ | refine J.G rfl ?_ | refine J.H rfl ?_ | refine T.rd rfl (by decide +kernel) ?_ | fail); conv => whnf)
        refine J.sub (Rel.derawp (s := 43) (g := 1004) rfl rfl rfl) ?_
        repeat' ((first | refine T.G rfl ?_ | refine J.G rfl ?_ | refine J.H rfl ?_ | refine T.rd rfl (by decide +kernel) ?_ | fail); conv => whnf)
        refine J.sub (Rel.deraw (s := 46) (g := 1005) rfl rfl) ?_
        repeat' ((first | refine T.G rfl ?_ | refine J.G rfl ?_ | refine J.H rfl ?_ | refine T.rd rfl (by decide +kernel) ?_ | fail); conv => whnf)
        refine J.mu v i rfl rfl rfl rfl rfl rfl rfl rfl rfl rfl rfl (keyI Try.underlying3) (fun _ _ _ h => rep_int h) rfl ?_
        repeat' ((first | refine T.G rfl ?_ | refine J.G rfl ?_ | refine J.H rfl ?_ | refine T.rd rfl (by decide +kernel) ?_ | fail); conv => whnf)
        exact ⟨[0, 1, 2, 3, 4, 5], [], [], ⟨rfl, rfl, rfl, rfl, rfl, rfl, rfl, rfl, rfl, rfl, rfl, rfl, rfl, rfl, rfl, rfl, rfl, rfl, trivial⟩, trivial, rfl, .v rfl rfl rfl (fun _ => rfl) .nil⟩
end Go.Proofs.Ytdflkbmpbblcfaa
/-! Contracts: a matching. -/
namespace Go.Proofs.Ytdflkbmpbblcfaa
open Go Go.RowKit
set_option linter.unusedVariables false
set_option linter.unusedSimpArgs false
set_option maxRecDepth 8000

/-- One is given a value. -/
abbrev giveP (l : List (List Int)) (i : Int) (b : By) : Bool × Seen × By := tryF l (l.flatten.length + 1) i [] b
theorem unseen_nil (l : List (List Int)) : unseen l [] < l.flatten.length + 1 := Nat.lt_succ_of_le (List.length_filter_le _ _)
theorem give_spec (l : List (List Int)) (hl : l.length * 24 ≤ 140737488355328) (hx : ∀ x ∈ l, x.length * 8 ≤ 140737488355328) (i : Int) (b : By) (pm pb : Value) (h0 : 0 ≤ i) (hi : i.toNat < l.length) (hb : ByIn l b) :
    SpecO Try.prog 38 false [pm, pb] [.box true [lists l, .raw pb], mpB b] [.raw pm, .int .i64 i] [.box true [lists l, .raw pb], mpB (giveP l i b).2.2] (fun _ => []) (fun _ => [.bool (giveP l i b).1]) := by
  refine SpecO.body [1001, 1002] [] Try.func38 rfl rfl rfl rfl fun w0 Z1 => ?_
  refine T.sub (Rel.fine (s := 0) rfl rfl) ?_
  refine T.sub (Rel.fine (s := 1) rfl rfl) ?_
  refine T.canon (keep := [0, 1, 1001, 1002]) (os := [1001, 1002]) rfl ?_
  repeat' ((first | refine T.G rfl ?_ | refine J.G rfl ?_ | refine J.H rfl ?_ | refine T.rd rfl (by decide +kernel) ?_ | fail); conv => whnf)
  refine J.mm rfl rfl rfl rfl ?_
  refine J.al rfl rfl rfl rfl rfl rfl rfl ?_
  refine J.name 1003 (s := 7) rfl rfl rfl fun ps => ?_
  refine J.sub (Rel.raw (s := 7) (g := 1003) rfl (.inl rfl) rfl rfl rfl) ?_
  refine J.w rfl rfl rfl rfl rfl rfl rfl rfl rfl rfl ?_
  repeat' ((first | refine T.G rfl ?_ | refine J.G rfl ?_ | refine J.H rfl ?_ | refine T.rd rfl (by decide +kernel) ?_ | fail); conv => whnf)
  refine J.al rfl rfl rfl rfl rfl rfl rfl ?_
  repeat' ((first | refine T.G rfl ?_ | refine J.G rfl ?_ | refine J.H rfl ?_ | refine T.rd rfl (by decide +kernel) ?_ | fail); conv => whnf)
  refine J.name 1004 (s := 2) rfl rfl rfl fun p2 => ?_
  refine J.name 1005 (s := 5) rfl rfl rfl fun p5 => ?_
  refine J.name 1006 (s := 6) rfl rfl rfl fun p6 => ?_
  refine J.sub (Rel.raw (s := 2) (g := 1004) rfl (.inr rfl) rfl rfl rfl) ?_
  refine J.sub (Rel.raw (s := 5) (g := 1005) rfl (.inr rfl) rfl rfl rfl) ?_
  refine J.sub (Rel.raw (s := 6) (g := 1006) rfl (.inr rfl) rfl rfl rfl) ?_
  repeat' ((first | refine T.G rfl ?_ | refine J.G rfl ?_ | refine J.H rfl ?_ | refine T.rd rfl (by decide +kernel) ?_ | fail); conv => whnf)
  refine J.sub (Rel.derawp (s := 6) (g := 1006) rfl rfl rfl) ?_
  refine J.sub (Rel.fineF (s := 8) rfl rfl rfl) ?_
  refine J.w rfl rfl rfl rfl rfl rfl rfl rfl rfl rfl ?_
  repeat' ((first | refine T.G rfl ?_ | refine J.G rfl ?_ | refine J.H rfl ?_ | refine T.rd rfl (by decide +kernel) ?_ | fail); conv => whnf)
  refine J.co (qs := [2, 4, 5, 0, 1, 3]) (cs2 := [.box true [.raw pm], .box true [.raw ps], .box true [fnTry p2 p5 p6], .box true [lists l, .raw pb], mpB b, mpS []]) true [1004, 1005, 1006, 1001, 1002, 1003] [] rfl rfl rfl rfl rfl rfl (try_spec l hl hx (l.flatten.length + 1) i [] b p2 p5 p6 pm pb ps (unseen_nil l) h0 hi hb) ⟨rfl, rfl, rfl, rfl, rfl, rfl, rfl, rfl, rfl, rfl, rfl, rfl, trivial⟩ rfl rfl rfl rfl rfl rfl rfl fun ns hns => ?_
  obtain rfl : ns = [] := List.eq_nil_of_length_eq_zero hns
  repeat' ((first | refine T.G rfl ?_ | refine J.G rfl ?_ | refine J.H rfl ?_ | refine T.rd rfl (by decide +kernel) ?_ | fail); conv => whnf)
  exact ⟨[0, 1], [], [], ⟨rfl, rfl, rfl, rfl, rfl, rfl, trivial⟩, trivial, rfl, .v rfl rfl rfl (fun _ => rfl) .nil⟩
/-- All from the i-th on are given one. -/
def giveAll (l : List (List Int)) : Nat → Nat → By → Option By
  | 0, _, b => some b
  | n + 1, i, b => match giveP l (i : Nat) b with
    | (true, _, b2) => giveAll l n (i + 1) b2
    | (false, _, _) => none
def matchP (l : List (List Int)) : Option By := giveAll l l.length 0 []
theorem giveAll_in {l : List (List Int)} : ∀ (n i : Nat) (b b2 : By), n + i = l.length → ByIn l b → giveAll l n i b = some b2 → ByIn l b2
  | 0, i, b, b2, _, hb, h => by cases h; exact hb
  | n + 1, i, b, b2, hi, hb, h => by
    have hk := tryF_ok l (l.flatten.length + 1) (i : Nat) [] b (by omega) (by omega) hb
    rw [giveAll] at h
    generalize hT : giveP l (i : Nat) b = R at *
    obtain ⟨r, s, b3⟩ := R
    cases r with
    | false => cases h
    | true => 
      rw [show tryF l (l.flatten.length + 1) (i : Nat) [] b = (true, s, b3) from hT] at hk
      exact giveAll_in n (i + 1) b3 b2 (by omega) hk.byIn h
theorem matchP_in {l : List (List Int)} {b : By} (h : matchP l = some b) : ByIn l b := giveAll_in _ _ _ _ rfl (fun p hp => by cases hp) h
theorem row_l {l : List (List Int)} {k : Nat} (h : k < l.length) : (l.map cL)[((k : Nat) : Int).toNat]? = some (cL l[k]) := by simp [h]
theorem matched_spec (l : List (List Int)) (hl : l.length * 24 ≤ 140737488355328) (hx : ∀ x ∈ l, x.length * 8 ≤ 140737488355328) :
    SpecO Try.prog 26 true [] [] [lists l] [] (fun ns => match matchP l with | some b => [.box true [lists l, .raw (ns.getD 1 undef)], mpB b] | none => []) (fun ns => match matchP l with | some b => [.raw (ns.getD 0 undef), .bool true] | none => [.nilp, .bool false]) := by
  generalize hR : matchP l = R
  refine SpecO.body [] (match R with | some _ => [1003, 1001] | none => []) Try.func26 rfl rfl rfl rfl fun w0 Z1 => ?_
  refine T.canon (keep := [0]) (os := []) rfl ?_
  repeat' ((first | refine T.G rfl ?_ | refine J.G rfl ?_ | refine J.H rfl ?_ | refine T.rd rfl (by decide +kernel) ?_ | fail); conv => whnf)
  refine J.mm rfl rfl rfl rfl ?_
  refine J.name 1001 (s := 7) rfl rfl rfl fun pb => ?_
  refine J.sub (Rel.raw (s := 7) (g := 1001) rfl (.inl rfl) rfl rfl rfl) ?_
  repeat' ((first | refine T.G rfl ?_ | refine J.G rfl ?_ | refine J.H rfl ?_ | refine T.rd rfl (by decide +kernel) ?_ | fail); conv => whnf)
  refine T.name 1003 (s := 4) rfl rfl rfl fun pm => ?_
  refine T.sub (Rel.raw (s := 4) (g := 1003) rfl (.inr rfl) rfl rfl rfl) ?_
  have hlen : (l.map cL).length = l.length := List.length_map ..
  rw [hlen]
  refine T.canon (keep := [4, 11, 12, 1001, 1003]) (os := [1001, 1003]) rfl (T.ind (fun x : Nat × By => ⟨[(4, .val true (.raw pm)), (11, .val true (.int .i64 l.length)), (12, .val true (.int .i64 x.1)), (1001, .eq pb 0), (1003, .eq pm 1)],
        [(0, some (mpB x.2)), (1, some (.box true [lists l, .raw pb]))], 2⟩)
      (fun x => x.1 ≤ l.length ∧ giveAll l (l.length - x.1) x.1 x.2 = R ∧ ByIn l x.2) (fun x => l.length - x.1) (0, []) ⟨by simp, hR, fun p hp => by cases hp⟩ (fun _ _ h => h) ?_)
  rintro ⟨k, b⟩ ⟨hk, hR, hb⟩ ih
  simp only at hk hR hb
  dsimp only
  repeat' ((first | refine T.G rfl ?_ | refine J.G rfl ?_ | refine J.H rfl ?_ | refine T.rd rfl (by decide +kernel) ?_ | fail); conv => whnf)
  refine T.cd rfl (fun h1 => ?_) (fun h1 => ?_)
  rotate_left
  · have h1 : k = l.length := by simp at h1; omega
    subst h1
    rw [Nat.sub_self, giveAll] at hR
    subst hR
    repeat' ((first | refine T.G rfl ?_ | refine J.G rfl ?_ | refine J.H rfl ?_ | refine T.rd rfl (by decide +kernel) ?_ | fail); conv => whnf)
    exact ⟨[], [1, 0], [pm, pb], trivial, ⟨rfl, rfl, rfl, rfl, rfl, rfl, trivial⟩, rfl, .v rfl rfl rfl (fun _ => rfl) (.v rfl rfl rfl (fun _ => rfl) .nil)⟩
  have h1 : k < l.length := by simpa using h1
  rw [show l.length - k = (l.length - (k + 1)) + 1 by omega, giveAll] at hR
  have hok := tryF_ok l (l.flatten.length + 1) (k : Nat) [] b (by omega) (by omega) hb
  have hsp := give_spec l hl hx (k : Nat) b pm pb (by omega) (by omega) hb
  have hw1 : IntKind.i64.wrap ((k : Int) + 1) = ((k + 1 : Nat) : Int) := by
    have := wrap1 (l := l.length) h1 (by omega)
    exact this
  repeat' ((first | refine T.G rfl ?_ | refine J.G rfl ?_ | refine J.H rfl ?_ | refine T.rd rfl (by decide +kernel) ?_ | fail); conv => whnf)
  refine J.co (qs := [1, 0]) (cs2 := [.box true [lists l, .raw pb], mpB b]) true [1003, 1001] [] rfl rfl rfl rfl rfl rfl hsp ⟨rfl, rfl, rfl, rfl, trivial⟩ rfl rfl rfl rfl rfl rfl rfl fun ns hns => ?_
  obtain rfl : ns = [] := List.eq_nil_of_length_eq_zero hns
  generalize hT : giveP l (k : Nat) b = TR at *
  rw [show tryF l (l.flatten.length + 1) (k : Nat) [] b = TR from hT] at hok
  obtain ⟨r, s2, b2⟩ := TR
  dsimp only
  repeat' ((first | refine T.G rfl ?_ | refine J.G rfl ?_ | refine J.H rfl ?_ | refine T.rd rfl (by decide +kernel) ?_ | fail); conv => whnf)
  cases r with
  | false =>
    simp only at hR
    subst hR
    refine T.ct rfl ?_
    repeat' ((first | refine T.G rfl ?_ | refine J.G rfl ?_ | refine J.H rfl ?_ | refine T.rd rfl (by decide +kernel) ?_ | fail); conv => whnf)
    exact ⟨[], [], [], trivial, trivial, rfl, .v rfl rfl rfl (fun _ => rfl) (.v rfl rfl rfl (fun _ => rfl) .nil)⟩
  | true =>
    simp only at hR
    refine T.cf rfl ?_
    repeat' ((first | refine T.G rfl ?_ | refine J.G rfl ?_ | refine J.H rfl ?_ | refine T.rd rfl (by decide +kernel) ?_ | fail); conv => whnf)
    rw [hw1]
    exact T.canon (keep := [4, 11, 12, 1001, 1003]) (os := [1001, 1003]) rfl (ih (k + 1, b2) ⟨by omega, hR, hok.byIn⟩ (by show _ - _ < _ - _; omega))
end Go.Proofs.Ytdflkbmpbblcfaa
/-! Contracts: unlike's lists; a list of lists anew; a domain out of values. -/
namespace Go.Proofs.Ytdflkbmpbblcfaa
open Go Go.RowKit
set_option linter.unusedVariables false
set_option linter.unusedSimpArgs false
set_option maxRecDepth 8000

/-- The values of a domain, as the program tells them. -/
def valsT (x : List (Int × Int)) : List Int := (vals x).take 4097
theorem valsT_len (x : List (Int × Int)) : (valsT x).length ≤ 4097 := by unfold valsT; rw [List.length_take]; omega
def listsP (d : Doms) (vs : List Int) : List (List Int) := vs.map fun v => valsT (d.getD v.toNat [])
theorem ulists_spec (d : Doms) (vs : List Int) (hd : SmallD d) (hb : ∀ x ∈ d, InB x) (hx : ∀ x ∈ d, x.length * 16 ≤ 140737488351232) (hv : ∀ v ∈ vs, 0 ≤ v ∧ v.toNat < d.length) (hl : vs.length * 24 ≤ 140737488355328) :
    Spec Try.prog 25 false [doms d, ints vs] [.own 23 1 ((listsP d vs).map cL)] := by
  refine Spec.body Try.func25 rfl rfl rfl fun w0 Z0 => ?_
  repeat' ((first | refine T.G rfl ?_ | refine J.G rfl ?_ | refine J.H rfl ?_ | refine T.rd rfl (by decide +kernel) ?_ | fail); conv => whnf)
  refine T.sub (Rel.own0 (s := 5) 23 1 rfl) ?_
  refine T.canon (keep := [0, 5, 8, 9, 10]) (os := [5]) rfl (T.list vs (fun n pre post => ⟨[(0, .val false (doms d)), (5, .ref 0), (8, .val false (ints vs)), (9, .val true (.int .i64 (vs.map cI).length)), (10, .val true (.int .i64 n))], [(0, some (.sl 23 1 true ((listsP d pre).map cL)))], 1⟩) (fun _ _ h => h) ?_ ?_)
  · rintro n pre v post h hn ih
    have hlt := at_lt h hn
    have hvv := hv v (by rw [h]; simp)
    have hrow : (d.map cD)[v.toNat]? = some (cD (d.getD v.toNat [])) := by simp [hvv.2]
    have hm : d.getD v.toNat [] ∈ d := by rw [List.getD_eq_getElem?_getD, List.getElem?_eq_getElem hvv.2]; exact List.getElem_mem hvv.2
    have hsp := (dvalues_spec (d.getD v.toNat []) (hb _ hm) (hx _ hm)).frz
    have hpl : (listsP d pre).length = pre.length := List.length_map ..
    repeat' ((first | refine T.G rfl ?_ | refine J.G rfl ?_ | refine J.H rfl ?_ | refine T.rd rfl (by decide +kernel) ?_ | fail); conv => whnf)
    refine T.ct2 rfl (lt_at h hn) ?_
    repeat' ((first | refine T.G rfl ?_ | refine J.G rfl ?_ | refine J.H rfl ?_ | refine T.rd rfl (by decide +kernel) ?_ | fail); conv => whnf)
    refine J.i rfl rfl rfl rfl rfl rfl rfl rfl rfl (r := cI v) (by omega) (row_at h hn) rfl ?_
    repeat' ((first | refine T.G rfl ?_ | refine J.G rfl ?_ | refine J.H rfl ?_ | refine T.rd rfl (by decide +kernel) ?_ | fail); conv => whnf)
    refine J.i rfl rfl rfl rfl rfl rfl rfl rfl rfl (r := cD (d.getD v.toNat [])) hvv.1 hrow rfl ?_
    repeat' ((first | refine T.G rfl ?_ | refine J.G rfl ?_ | refine J.H rfl ?_ | refine T.rd rfl (by decide +kernel) ?_ | fail); conv => whnf)
    refine J.cc rfl rfl rfl rfl rfl hsp rfl rfl ?_
    repeat' ((first | refine T.G rfl ?_ | refine J.G rfl ?_ | refine J.H rfl ?_ | refine T.rd rfl (by decide +kernel) ?_ | fail); conv => whnf)
    refine J.bv rfl rfl rfl rfl rfl rfl rfl rfl rfl rfl rfl rfl ?_
    repeat' ((first | refine T.G rfl ?_ | refine J.G rfl ?_ | refine J.H rfl ?_ | refine T.rd rfl (by decide +kernel) ?_ | fail); conv => whnf)
    refine J.a1 (enc := cL) (x := valsT (d.getD v.toNat [])) (B := 24) rfl rfl rfl rfl rfl rfl rfl rfl rfl rfl rfl rfl rfl rfl rfl rfl rfl rfl rfl rfl (by omega) ?_
    rw [show listsP d pre ++ [valsT (d.getD v.toNat [])] = listsP d (pre ++ [v]) by simp [listsP]]
    repeat' ((first | refine T.G rfl ?_ | refine J.G rfl ?_ | refine J.H rfl ?_ | refine T.rd rfl (by decide +kernel) ?_ | fail); conv => whnf)
    rw [wrap1 hlt (by omega)]
    exact T.canon (keep := [0, 5, 8, 9, 10]) (os := [5]) rfl ih
  · repeat' ((first | refine T.G rfl ?_ | refine J.G rfl ?_ | refine J.H rfl ?_ | refine T.rd rfl (by decide +kernel) ?_ | fail); conv => whnf)
    refine T.cf2 rfl lt_end ?_
    repeat' ((first | refine T.G rfl ?_ | refine J.G rfl ?_ | refine J.H rfl ?_ | refine T.rd rfl (by decide +kernel) ?_ | fail); conv => whnf)
    exact ⟨_, .o rfl rfl rfl (fun _ => .inl rfl) (by simp) .nil⟩
theorem len_L {l : List (List Int)} : ∀ r ∈ l.map cL, r.length = 1 := fun r hr => by obtain ⟨x, _, rfl⟩ := List.mem_map.1 hr; rfl
theorem cloneL_spec (l : List (List Int)) (hl : l.length * 24 ≤ 140737488355328) : Spec Try.prog 27 true [lists l] [.own 23 1 (l.map cL)] := by
  refine Spec.body Try.func27 rfl rfl rfl fun w0 Z0 => ?_
  repeat' ((first | refine T.G rfl ?_ | refine J.G rfl ?_ | refine J.H rfl ?_ | refine T.rd rfl (by decide +kernel) ?_ | fail); conv => whnf)
  refine J.nc rfl rfl rfl rfl rfl rfl rfl fun b hb => ?_
  repeat' ((first | refine T.G rfl ?_ | refine J.G rfl ?_ | refine J.H rfl ?_ | refine T.rd rfl (by decide +kernel) ?_ | fail); conv => whnf)
  cases b
  · refine T.cf rfl ?_
    repeat' ((first | refine T.G rfl ?_ | refine J.G rfl ?_ | refine J.H rfl ?_ | refine T.rd rfl (by decide +kernel) ?_ | fail); conv => whnf)
    refine J.bo rfl rfl rfl rfl rfl rfl rfl rfl rfl rfl rfl rfl ?_
    repeat' ((first | refine T.G rfl ?_ | refine J.G rfl ?_ | refine J.H rfl ?_ | refine T.rd rfl (by decide +kernel) ?_ | fail); conv => whnf)
    refine J.a rfl rfl rfl rfl rfl rfl rfl rfl rfl rfl rfl rfl rfl rfl rfl rfl rfl len_L (by show (0 + List.length _) * 24 ≤ _; simp; omega) ?_
    repeat' ((first | refine T.G rfl ?_ | refine J.G rfl ?_ | refine J.H rfl ?_ | refine T.rd rfl (by decide +kernel) ?_ | fail); conv => whnf)
    exact ⟨_, .o rfl rfl rfl (fun h => by cases h) (by simp) .nil⟩
  · have : l = [] := by simpa using hb rfl
    subst this
    refine T.ct rfl ?_
    repeat' ((first | refine T.G rfl ?_ | refine J.G rfl ?_ | refine J.H rfl ?_ | refine T.rd rfl (by decide +kernel) ?_ | fail); conv => whnf)
    exact ⟨_, .ownN rfl .nil⟩
theorem dvalue_spec (v : Int) : Spec Try.prog 41 false [.int .i64 v] [.val (.bool (valueB v))] := by
  refine Spec.body Try.func41 rfl rfl rfl fun w0 Z0 => ?_
  repeat' first | refine T.seq ?_ | refine T.block ?_ | refine T.r ?_ | refine J.e rfl rfl rfl rfl ?_ | refine J.nil ?_ | refine J.skip rfl rfl rfl ?_ | refine T.skip ?_ | refine T.exit ?_ | refine T.ret ?_ | refine T.rd rfl (by kernel_rfl) ?_ | refine J.bx rfl rfl rfl rfl rfl rfl ?_
  refine J.g rfl rfl rfl (fun h => ?_) (fun h => ?_)
  · repeat' first | refine T.seq ?_ | refine T.block ?_ | refine T.r ?_ | refine J.e rfl rfl rfl rfl ?_ | refine J.nil ?_ | refine J.skip rfl rfl rfl ?_ | refine T.skip ?_ | refine T.exit ?_ | refine T.ret ?_ | refine T.rd rfl (by kernel_rfl) ?_ | refine J.bx rfl rfl rfl rfl rfl rfl ?_
    exact ⟨_, .v rfl rfl (by simp [valueB, show -1048576 ≤ v from h]) (fun _ => rfl) .nil⟩
  · repeat' first | refine T.seq ?_ | refine T.block ?_ | refine T.r ?_ | refine J.e rfl rfl rfl rfl ?_ | refine J.nil ?_ | refine J.skip rfl rfl rfl ?_ | refine T.skip ?_ | refine T.exit ?_ | refine T.ret ?_ | refine T.rd rfl (by kernel_rfl) ?_ | refine J.bx rfl rfl rfl rfl rfl rfl ?_
    exact ⟨_, .v rfl rfl (by simp [valueB, show ¬ -1048576 ≤ v from h]) (fun _ => rfl) .nil⟩

theorem of1_spec (v : Int) : Spec Try.prog 40 false [.int .i64 v] [.val (.bool (!valueB v))] := by
  refine Spec.body Try.func40 rfl rfl rfl fun w0 Z0 => ?_
  repeat' ((first | refine T.G rfl ?_ | refine J.G rfl ?_ | refine J.H rfl ?_ | refine T.rd rfl (by decide +kernel) ?_ | fail); conv => whnf)
  refine J.cc rfl rfl rfl rfl rfl (dvalue_spec v) rfl rfl ?_
  repeat' ((first | refine T.G rfl ?_ | refine J.G rfl ?_ | refine J.H rfl ?_ | refine T.rd rfl (by decide +kernel) ?_ | fail); conv => whnf)
  exact ⟨_, .v rfl rfl rfl (fun _ => rfl) .nil⟩
def indexP (p : Int → Bool) (l : List Int) : Int := match l.findIdx? p with | some i => (i : Int) | none => -1
theorem indexF_spec {p : Int → Bool} {f : FuncId} (l : List Int) (hp : ∀ v ∈ l, Spec Try.prog f false [.int .i64 v] [.val (.bool (p v))]) (hl : l.length * 8 ≤ 140737488355328) : Spec Try.prog 55 false [ints l, .fn (.func f) [] []] [.val (.int .i64 (indexP p l))] := by
  refine Spec.body Try.func55 rfl rfl rfl fun w0 Z0 => ?_
  repeat' ((first | refine T.G rfl ?_ | refine J.G rfl ?_ | refine J.H rfl ?_ | refine T.rd rfl (by decide +kernel) ?_ | fail); conv => whnf)
  refine T.canon (keep := [0, 1, 7, 8]) (os := []) rfl (T.listI l (fun pre => ∀ v ∈ pre, p v = false) (fun n pre post => ⟨[(0, .val false (ints l)), (1, .val false (.fn (.func f) [] [])), (7, .val true (.int .i64 (l.map cI).length)), (8, .val true (.int .i64 n))], [], 0⟩) (fun _ _ h => h) (fun v hv => by cases hv) ?_ ?_)
  · rintro n pre v post h hn hi ih
    have hlt := at_lt h hn
    have hsp := hp v (by rw [h]; simp)
    repeat' ((first | refine T.G rfl ?_ | refine J.G rfl ?_ | refine J.H rfl ?_ | refine T.rd rfl (by decide +kernel) ?_ | fail); conv => whnf)
    refine T.ct2 rfl (lt_at h hn) ?_
    repeat' ((first | refine T.G rfl ?_ | refine J.G rfl ?_ | refine J.H rfl ?_ | refine T.rd rfl (by decide +kernel) ?_ | fail); conv => whnf)
    refine J.i rfl rfl rfl rfl rfl rfl rfl rfl rfl (r := cI v) (by omega) (row_at h hn) rfl ?_
    repeat' ((first | refine T.G rfl ?_ | refine J.G rfl ?_ | refine J.H rfl ?_ | refine T.rd rfl (by decide +kernel) ?_ | fail); conv => whnf)
    refine J.cc rfl rfl rfl rfl rfl hsp rfl rfl ?_
    repeat' ((first | refine T.G rfl ?_ | refine J.G rfl ?_ | refine J.H rfl ?_ | refine T.rd rfl (by decide +kernel) ?_ | fail); conv => whnf)
    refine T.cond rfl (fun h2 => ?_) (fun h2 => ?_)
    · have h2 : p v = true := h2
      repeat' ((first | refine T.G rfl ?_ | refine J.G rfl ?_ | refine J.H rfl ?_ | refine T.rd rfl (by decide +kernel) ?_ | fail); conv => whnf)
      have e : indexP p l = (n : Int) := by
        unfold indexP
        rw [h, List.findIdx?_append, List.findIdx?_eq_none_iff.2 (by simpa using hi), List.findIdx?_cons, if_pos h2]
        simp [hn]
      rw [e]
      exact ⟨_, .v rfl rfl rfl (fun _ => rfl) .nil⟩
    · have h2 : p v = false := h2
      repeat' ((first | refine T.G rfl ?_ | refine J.G rfl ?_ | refine J.H rfl ?_ | refine T.rd rfl (by decide +kernel) ?_ | fail); conv => whnf)
      rw [wrap1 hlt (by omega)]
      exact T.canon (keep := [0, 1, 7, 8]) (os := []) rfl (ih (by
        intro x hx
        rcases List.mem_append.1 hx with hx | hx
        · exact hi x hx
        · rw [List.mem_singleton.1 hx]; exact h2))
  · intro hi
    have e : indexP p l = -1 := by
      unfold indexP
      rw [List.findIdx?_eq_none_iff.2 (by simpa using hi)]
    rw [e]
    repeat' ((first | refine T.G rfl ?_ | refine J.G rfl ?_ | refine J.H rfl ?_ | refine T.rd rfl (by decide +kernel) ?_ | fail); conv => whnf)
    refine T.cf2 rfl lt_end ?_
    repeat' ((first | refine T.G rfl ?_ | refine J.G rfl ?_ | refine J.H rfl ?_ | refine T.rd rfl (by decide +kernel) ?_ | fail); conv => whnf)
    exact ⟨_, .v rfl rfl rfl (fun _ => rfl) .nil⟩
theorem containsF_spec {p : Int → Bool} {f : FuncId} (l : List Int) (hp : ∀ v ∈ l, Spec Try.prog f false [.int .i64 v] [.val (.bool (p v))]) (hl : l.length * 8 ≤ 140737488355328) : Spec Try.prog 39 false [ints l, .fn (.func f) [] []] [.val (.bool (l.any p))] := by
  refine Spec.body Try.func39 rfl rfl rfl fun w0 Z0 => ?_
  repeat' ((first | refine T.G rfl ?_ | refine J.G rfl ?_ | refine J.H rfl ?_ | refine T.rd rfl (by decide +kernel) ?_ | fail); conv => whnf)
  refine J.cc rfl rfl rfl rfl rfl (indexF_spec l hp hl) rfl rfl ?_
  repeat' ((first | refine T.G rfl ?_ | refine J.G rfl ?_ | refine J.H rfl ?_ | refine T.rd rfl (by decide +kernel) ?_ | fail); conv => whnf)
  refine ⟨_, .v rfl rfl ?_ (fun _ => rfl) .nil⟩
  simp only [PV.bool.injEq]
  unfold indexP
  cases h : l.findIdx? p with
  | none =>
    have : l.any p = false := by
      rw [List.any_eq_false]
      exact fun x hx => by simpa using List.findIdx?_eq_none_iff.1 h x hx
    rw [this]; rfl
  | some i =>
    have : l.any p = true := by
      rw [List.any_eq_true]
      obtain ⟨h1, h2, _⟩ := List.findIdx?_eq_some_iff_getElem.1 h
      exact ⟨_, List.getElem_mem h1, h2⟩
    rw [this]
    simp
end Go.Proofs.Ytdflkbmpbblcfaa
/-! Contracts: a domain out of sorted values. -/
namespace Go.Proofs.Ytdflkbmpbblcfaa
open Go Go.RowKit
set_option linter.unusedVariables false
set_option linter.unusedSimpArgs false
set_option maxRecDepth 8000

def packS (out : List (Int × Int)) (v : Int) : List (Int × Int) := match out.getLast? with
  | none => out ++ [(v, v)]
  | some (a, b) => if b ≥ v then out else if b = v - 1 then out.dropLast ++ [(a, v)] else out ++ [(v, v)]
def packG (l : List Int) : List (Int × Int) := l.foldl packS []
theorem packS_nil (v : Int) : packS [] v = [(v, v)] := rfl
theorem packS_snoc (o : List (Int × Int)) (a b v : Int) : packS (o ++ [(a, b)]) v = if b ≥ v then o ++ [(a, b)] else if b = v - 1 then o ++ [(a, v)] else o ++ [(a, b)] ++ [(v, v)] := by
  unfold packS
  rw [List.getLast?_append]
  simp
theorem packS_len (o : List (Int × Int)) (v : Int) : (packS o v).length ≤ o.length + 1 := by
  rcases List.eq_nil_or_concat o with rfl | ⟨o, ⟨a, b⟩, rfl⟩
  · exact Nat.le_refl _
  · rw [List.concat_eq_append, packS_snoc]
    split
    · simp
    · split <;> simp
theorem packG_len (l : List Int) : (packG l).length ≤ l.length := by
  have : ∀ (l : List Int) (o : List (Int × Int)), (l.foldl packS o).length ≤ o.length + l.length := by
    intro l
    induction l with
    | nil => intro o; exact Nat.le_refl _
    | cons v l ih => intro o; have h1 := ih (packS o v); have h2 := packS_len o v; rw [List.foldl_cons, List.length_cons]; omega
  have h := this l []
  simp only [List.length_nil, Nat.zero_add] at h
  exact h
theorem packG_snoc (l : List Int) (v : Int) : packG (l ++ [v]) = packS (packG l) v := by simp [packG]
theorem put_last {e : TypeId} {fr : Bool} (o : List (Int × Int)) (a b v : Int) : Own.put (.sl e 2 fr ((o ++ [(a, b)]).map cR)) o.length 1 2 true [.int .i64 v] = some (.sl e 2 fr ((o ++ [(a, v)]).map cR)) := by
  have h : ((o ++ [(a, b)]).map cR)[o.length]? = some (cR (a, b)) := by simp
  show (match Nat.beq 2 2, ((o ++ [(a, b)]).map cR)[o.length]? with | true, some r => (match Nat.ble (1 + 1) r.length with | true => some (Own.sl e 2 (fr && true) (((o ++ [(a, b)]).map cR).set o.length (putCells r 1 [.int .i64 v]))) | false => none) | _, _ => none) = _
  rw [h]
  show some (Own.sl e 2 (fr && true) _) = _
  rw [Bool.and_true]
  congr 2
  rw [List.map_append, List.map_append, show o.length = (o.map cR).length + 0 by simp, List.set_append_right _ _ (by simp)]
  simp [cR, putCells]
theorem packed_spec (l : List Int) (hv : ∀ v ∈ l, valueB v = true) (hl : l.length * 16 ≤ 140737488355328) : Spec Try.prog 42 false [ints l] [.own 38 2 ((packG l).map cR)] := by
  refine Spec.body Try.func42 rfl rfl rfl fun w0 Z0 => ?_
  repeat' ((first | refine T.G rfl ?_ | refine J.G rfl ?_ | refine J.H rfl ?_ | refine T.rd rfl (by decide +kernel) ?_ | fail); conv => whnf)
  refine T.sub (Rel.own0 (s := 3) 38 2 rfl) ?_
  refine T.canon (keep := [3, 7, 8, 9]) (os := [3]) rfl (T.list l (fun n pre post => ⟨[(3, .ref 0), (7, .val false (ints l)), (8, .val true (.int .i64 (l.map cI).length)), (9, .val true (.int .i64 n))], [(0, some (.sl 38 2 true ((packG pre).map cR)))], 1⟩) (fun _ _ h => h) ?_ ?_)
  · rintro n pre v post h hn ih
    have hlt := at_lt h hn
    have hpl := packG_len pre
    have hvv : -1048576 ≤ v ∧ v ≤ 1048576 := by simpa [valueB] using hv v (by rw [h]; simp)
    rw [packG_snoc] at ih
    repeat' ((first | refine T.G rfl ?_ | refine J.G rfl ?_ | refine J.H rfl ?_ | refine T.rd rfl (by decide +kernel) ?_ | fail); conv => whnf)
    refine T.ct2 rfl (lt_at h hn) ?_
    repeat' ((first | refine T.G rfl ?_ | refine J.G rfl ?_ | refine J.H rfl ?_ | refine T.rd rfl (by decide +kernel) ?_ | fail); conv => whnf)
    refine J.i rfl rfl rfl rfl rfl rfl rfl rfl rfl (r := cI v) (by omega) (row_at h hn) rfl ?_
    generalize packG pre = out at *
    repeat' ((first | refine T.G rfl ?_ | refine J.G rfl ?_ | refine J.H rfl ?_ | refine T.rd rfl (by decide +kernel) ?_ | fail); conv => whnf)
    rcases List.eq_nil_or_concat out with rfl | ⟨o, ⟨a, b⟩, rfl⟩
    · refine J.g rfl rfl rfl (fun h2 => ?_) (fun h2 => ?_)
      · simp at h2
      repeat' ((first | refine T.G rfl ?_ | refine J.G rfl ?_ | refine J.H rfl ?_ | refine T.rd rfl (by decide +kernel) ?_ | fail); conv => whnf)
      refine T.cf rfl ?_
      repeat' ((first | refine T.G rfl ?_ | refine J.G rfl ?_ | refine J.H rfl ?_ | refine T.rd rfl (by decide +kernel) ?_ | fail); conv => whnf)
      refine T.cf rfl ?_
      repeat' ((first | refine T.G rfl ?_ | refine J.G rfl ?_ | refine J.H rfl ?_ | refine T.rd rfl (by decide +kernel) ?_ | fail); conv => whnf)
      refine J.bv rfl rfl rfl rfl rfl rfl rfl rfl rfl rfl rfl rfl ?_
      repeat' ((first | refine T.G rfl ?_ | refine J.G rfl ?_ | refine J.H rfl ?_ | refine T.rd rfl (by decide +kernel) ?_ | fail); conv => whnf)
      refine J.aR rfl rfl rfl rfl rfl rfl rfl rfl rfl rfl rfl rfl rfl rfl rfl rfl rfl rfl rfl (by simp) ?_
      repeat' ((first | refine T.G rfl ?_ | refine J.G rfl ?_ | refine J.H rfl ?_ | refine T.rd rfl (by decide +kernel) ?_ | fail); conv => whnf)
      rw [wrap1 hlt (by omega)]
      exact T.canon (keep := [3, 7, 8, 9]) (os := [3]) rfl ih
    · rw [List.concat_eq_append] at *
      rw [packS_snoc] at ih
      refine J.g rfl rfl rfl (fun h2 => ?_) (fun h2 => ?_)
      rotate_left
      · simp at h2
      have hol : (o.map cR).length + 1 = (o ++ [(a, b)]).length := by simp
      have hlw : IntKind.i64.wrap (((((o ++ [(a, b)]).map cR).length : Nat) : Int) - 1) = (o.length : Int) := by
        rw [List.length_map, List.length_append, wrap_id] <;> simp at * <;> omega
      have hro : ((o ++ [(a, b)]).map cR)[((o.length : Nat) : Int).toNat]? = some (cR (a, b)) := by simp
      repeat' ((first | refine T.G rfl ?_ | refine J.G rfl ?_ | refine J.H rfl ?_ | refine T.rd rfl (by decide +kernel) ?_ | fail); conv => whnf)
      rw [hlw]
      refine J.io rfl rfl rfl rfl rfl rfl rfl rfl rfl (by omega) (by simp) rfl ?_
      repeat' ((first | refine T.G rfl ?_ | refine J.G rfl ?_ | refine J.H rfl ?_ | refine T.rd rfl (by decide +kernel) ?_ | fail); conv => whnf)
      refine J.lo rfl rfl rfl rfl rfl rfl (r := cR (a, b)) hro rfl ?_
      repeat' ((first | refine T.G rfl ?_ | refine J.G rfl ?_ | refine J.H rfl ?_ | refine T.rd rfl (by decide +kernel) ?_ | fail); conv => whnf)
      refine T.cd rfl (fun h3 => ?_) (fun h3 => ?_)
      · rw [if_pos h3] at ih
        repeat' ((first | refine T.G rfl ?_ | refine J.G rfl ?_ | refine J.H rfl ?_ | refine T.rd rfl (by decide +kernel) ?_ | fail); conv => whnf)
        rw [wrap1 hlt (by omega)]
        exact T.canon (keep := [3, 7, 8, 9]) (os := [3]) rfl ih
      rw [if_neg h3] at ih
      repeat' ((first | refine T.G rfl ?_ | refine J.G rfl ?_ | refine J.H rfl ?_ | refine T.rd rfl (by decide +kernel) ?_ | fail); conv => whnf)
      refine J.g rfl rfl rfl (fun h4 => ?_) (fun h4 => ?_)
      rotate_left
      · simp at h4
      repeat' ((first | refine T.G rfl ?_ | refine J.G rfl ?_ | refine J.H rfl ?_ | refine T.rd rfl (by decide +kernel) ?_ | fail); conv => whnf)
      rw [hlw]
      refine J.io rfl rfl rfl rfl rfl rfl rfl rfl rfl (by omega) (by simp) rfl ?_
      repeat' ((first | refine T.G rfl ?_ | refine J.G rfl ?_ | refine J.H rfl ?_ | refine T.rd rfl (by decide +kernel) ?_ | fail); conv => whnf)
      refine J.lo rfl rfl rfl rfl rfl rfl (r := cR (a, b)) hro rfl ?_
      repeat' ((first | refine T.G rfl ?_ | refine J.G rfl ?_ | refine J.H rfl ?_ | refine T.rd rfl (by decide +kernel) ?_ | fail); conv => whnf)
      rw [wrap_id (n := v - 1) (by omega) (by omega)]
      refine T.cd rfl (fun h5 => ?_) (fun h5 => ?_)
      · rw [if_pos h5] at ih
        repeat' ((first | refine T.G rfl ?_ | refine J.G rfl ?_ | refine J.H rfl ?_ | refine T.rd rfl (by decide +kernel) ?_ | fail); conv => whnf)
        rw [hlw]
        refine J.io rfl rfl rfl rfl rfl rfl rfl rfl rfl (by omega) (by simp) rfl ?_
        repeat' ((first | refine T.G rfl ?_ | refine J.G rfl ?_ | refine J.H rfl ?_ | refine T.rd rfl (by decide +kernel) ?_ | fail); conv => whnf)
        refine J.w rfl rfl rfl rfl rfl rfl rfl rfl rfl (put_last o a b v) ?_
        repeat' ((first | refine T.G rfl ?_ | refine J.G rfl ?_ | refine J.H rfl ?_ | refine T.rd rfl (by decide +kernel) ?_ | fail); conv => whnf)
        rw [wrap1 hlt (by omega)]
        exact T.canon (keep := [3, 7, 8, 9]) (os := [3]) rfl ih
      · rw [if_neg h5] at ih
        repeat' ((first | refine T.G rfl ?_ | refine J.G rfl ?_ | refine J.H rfl ?_ | refine T.rd rfl (by decide +kernel) ?_ | fail); conv => whnf)
        refine J.bv rfl rfl rfl rfl rfl rfl rfl rfl rfl rfl rfl rfl ?_
        repeat' ((first | refine T.G rfl ?_ | refine J.G rfl ?_ | refine J.H rfl ?_ | refine T.rd rfl (by decide +kernel) ?_ | fail); conv => whnf)
        refine J.aR rfl rfl rfl rfl rfl rfl rfl rfl rfl rfl rfl rfl rfl rfl rfl rfl rfl rfl rfl (by omega) ?_
        repeat' ((first | refine T.G rfl ?_ | refine J.G rfl ?_ | refine J.H rfl ?_ | refine T.rd rfl (by decide +kernel) ?_ | fail); conv => whnf)
        rw [wrap1 hlt (by omega)]
        exact T.canon (keep := [3, 7, 8, 9]) (os := [3]) rfl ih
  · repeat' ((first | refine T.G rfl ?_ | refine J.G rfl ?_ | refine J.H rfl ?_ | refine T.rd rfl (by decide +kernel) ?_ | fail); conv => whnf)
    refine T.cf2 rfl lt_end ?_
    repeat' ((first | refine T.G rfl ?_ | refine J.G rfl ?_ | refine J.H rfl ?_ | refine T.rd rfl (by decide +kernel) ?_ | fail); conv => whnf)
    exact ⟨_, .o rfl rfl rfl (fun _ => .inl rfl) (by simp) .nil⟩
end Go.Proofs.Ytdflkbmpbblcfaa
/-! Plain: a matching is found just if there is one. -/
namespace Go.Proofs.Ytdflkbmpbblcfaa
open Go Go.RowKit
set_option linter.unusedVariables false
set_option linter.unusedSimpArgs false

def cnt (b : By) (j : Int) : Nat := b.countP fun p => decide (p.2 = j)
theorem cnt_up (b : By) (v i j : Int) : cnt (upA b v i) j + (if lkA b v = some j then 1 else 0) = cnt b j + if i = j then 1 else 0 := by
  induction b with
  | nil =>
    show List.countP _ [(v, i)] + 0 = 0 + _
    rw [List.countP_cons]
    simp
  | cons p b ih =>
    unfold cnt at *
    rw [up_cons, lkA_cons]
    by_cases h : p.1 = v
    · rw [if_pos h, if_pos h, List.countP_cons, List.countP_cons]
      simp only [decide_eq_true_eq, Option.some.injEq]
      omega
    · rw [if_neg h, if_neg h, List.countP_cons, List.countP_cons]
      omega
/-- What a try does to who has what. -/
structure TT (i : Int) (s : Seen) (b : By) (R : Bool × Seen × By) : Prop where
  mono : ∀ v, sees s v → sees R.2.1 v
  no : R.1 = false → R.2.2 = b
  more : R.1 = true → ∀ j, cnt R.2.2 j = cnt b j + if i = j then 1 else 0
  keep : R.1 = true → ∀ v, sees s v → lkA R.2.2 v = lkA b v
theorem tryL_tt {rec : Seen → By → Int → Bool × Seen × By} {i : Int} (hr : ∀ s b k, TT k s b (rec s b k)) : ∀ (vs : List Int) (s : Seen) (b : By), TT i s b (tryL rec i vs s b)
  | [], s, b => ⟨fun _ h => h, fun _ => rfl, fun h => (by cases h), fun h => (by cases h)⟩
  | v :: vs, s, b => by
    rw [tryL]
    split
    · exact tryL_tt hr vs s b
    · rename_i hs
      have hne : ∀ w, sees s w → ¬ v = w := fun w hw e => hs (e ▸ hw)
      split
      · rename_i hk
        refine ⟨fun w hw => sees_up.2 (.inr hw), fun h => (by cases h), fun _ j => ?_, fun _ w hw => ?_⟩
        · have := cnt_up b v i j
          rw [hk] at this
          simpa using this
        · show lkA (upA b v i) w = _
          rw [lk_up, if_neg (hne w hw)]
      · rename_i k hk
        have h1 := hr (upA s v true) b k
        have hv : sees (upA s v true) v := sees_up.2 (.inl rfl)
        split
        · rename_i s2 b2 e
          rw [e] at h1
          refine ⟨fun w hw => h1.mono w (sees_up.2 (.inr hw)), fun h => (by cases h), fun _ j => ?_, fun _ w hw => ?_⟩
          · have e1 := cnt_up b2 v i j
            have e2 := h1.more rfl j
            have e3 := h1.keep rfl v hv
            simp only at e2 e3
            rw [e3, hk] at e1
            simp only [Option.some.injEq] at e1
            show cnt (upA b2 v i) j = _
            omega
          · show lkA (upA b2 v i) w = _
            rw [lk_up, if_neg (hne w hw)]
            exact h1.keep rfl w (sees_up.2 (.inr hw))
        · rename_i s2 b2 e
          rw [e] at h1
          obtain rfl : b2 = b := h1.no rfl
          have h2 := tryL_tt (i := i) hr vs s2 b2
          exact ⟨fun w hw => h2.mono w (h1.mono w (sees_up.2 (.inr hw))), h2.no, h2.more, fun h w hw => h2.keep h w (h1.mono w (sees_up.2 (.inr hw)))⟩
theorem tryF_tt (l : List (List Int)) : ∀ (f : Nat) (i : Int) (s : Seen) (b : By), TT i s b (tryF l f i s b)
  | 0, i, s, b => ⟨fun _ h => h, fun _ => rfl, fun h => (by cases h), fun h => (by cases h)⟩
  | f + 1, i, s, b => by
    rw [tryF]
    exact tryL_tt (fun s b k => tryF_tt l f k s b) _ _ _
/-- Who has a value may have it. -/
def Fits (l : List (List Int)) (b : By) : Prop := ∀ p ∈ b, p.1 ∈ l.getD p.2.toNat []
theorem Fits.up {l : List (List Int)} {b : By} (h : Fits l b) {v i : Int} (hv : v ∈ l.getD i.toNat []) : Fits l (upA b v i) := fun p hp => by
  rcases mem_upA hp with hp | rfl
  · exact h p hp
  · exact hv
theorem tryL_fits {l : List (List Int)} {rec : Seen → By → Int → Bool × Seen × By} {i : Int} (hr : ∀ s b k, Fits l b → Fits l (rec s b k).2.2) : ∀ (vs : List Int) (s : Seen) (b : By), (∀ v ∈ vs, v ∈ l.getD i.toNat []) → Fits l b → Fits l (tryL rec i vs s b).2.2
  | [], s, b, _, hb => hb
  | v :: vs, s, b, hv, hb => by
    rw [tryL]
    split
    · exact tryL_fits hr vs s b (fun w hw => hv w (.tail _ hw)) hb
    · split
      · exact hb.up (hv v (.head _))
      · rename_i k _
        have h1 := hr (upA s v true) b k hb
        split
        · rename_i s2 b2 e
          rw [e] at h1
          exact h1.up (hv v (.head _))
        · rename_i s2 b2 e
          rw [e] at h1
          exact tryL_fits hr vs s2 b2 (fun w hw => hv w (.tail _ hw)) h1
theorem tryF_fits (l : List (List Int)) : ∀ (f : Nat) (i : Int) (s : Seen) (b : By), Fits l b → Fits l (tryF l f i s b).2.2
  | 0, i, s, b, h => h
  | f + 1, i, s, b, h => by
    rw [tryF]
    exact tryL_fits (fun s b k h => tryF_fits l f k s b h) _ _ _ (fun _ h => h) h
theorem giveAll_ok {l : List (List Int)} : ∀ (n i : Nat) (b b2 : By), n + i = l.length → Fits l b → (∀ j : Int, cnt b j = if 0 ≤ j ∧ j < (i : Nat) then 1 else 0) → giveAll l n i b = some b2 → Fits l b2 ∧ ∀ j : Int, cnt b2 j = if 0 ≤ j ∧ j < (l.length : Nat) then 1 else 0
  | 0, i, b, b2, hi, hb, hc, h => by
    cases h
    rw [show l.length = i by omega]
    exact ⟨hb, hc⟩
  | n + 1, i, b, b2, hi, hb, hc, h => by
    have h1 := tryF_tt l (l.flatten.length + 1) (i : Nat) [] b
    have h2 := tryF_fits l (l.flatten.length + 1) (i : Nat) [] b hb
    rw [giveAll] at h
    generalize hT : giveP l (i : Nat) b = R at *
    rw [show tryF l (l.flatten.length + 1) (i : Nat) [] b = R from hT] at h1 h2
    obtain ⟨r, s, b3⟩ := R
    cases r with
    | false => cases h
    | true =>
      refine giveAll_ok n (i + 1) b3 b2 (by omega) h2 (fun j => ?_) h
      have := h1.more rfl j
      simp only at this
      rw [this, hc j]
      by_cases e : ((i : Nat) : Int) = j
      · rw [if_pos e, if_neg (by omega), if_pos (by omega)]
      · rw [if_neg e]
        by_cases e2 : 0 ≤ j ∧ j < (i : Nat)
        · rw [if_pos e2, if_pos (by omega)]
        · rw [if_neg e2, if_neg (by omega)]
theorem matchP_ok {l : List (List Int)} {b : By} (h : matchP l = some b) : Fits l b ∧ ∀ j : Int, cnt b j = if 0 ≤ j ∧ j < (l.length : Nat) then 1 else 0 :=
  giveAll_ok l.length 0 [] b rfl (fun p hp => by cases hp) (fun j => by rw [if_neg (by omega)]; rfl) h
theorem cnt_mem {b : By} {j : Int} (h : 0 < cnt b j) : ∃ p ∈ b, p.2 = j := by
  obtain ⟨p, h1, h2⟩ := List.countP_pos_iff.1 h
  exact ⟨p, h1, by simpa using h2⟩
theorem cnt_one {j : Int} : ∀ {b : By}, cnt b j ≤ 1 → ∀ (x y : Nat) (p q : Int × Int), b[x]? = some p → b[y]? = some q → p.2 = j → q.2 = j → x = y
  | [], _, x, y, p, q, hp, _, _, _ => by cases hp
  | r :: b, h, x, y, p, q, hp, hq, h1, h2 => by
    unfold cnt at h
    rw [List.countP_cons] at h
    have key : ∀ (z : Nat) (u : Int × Int), b[z]? = some u → u.2 = j → 0 < cnt b j := fun z u hz hu => List.countP_pos_iff.2 ⟨u, List.mem_of_getElem? hz, by simpa using hu⟩
    cases x with
    | zero =>
      cases y with
      | zero => rfl
      | succ y =>
        obtain rfl := Option.some.inj hp
        have := key y q hq h2
        unfold cnt at this
        rw [if_pos (by simpa using h1)] at h
        omega
    | succ x =>
      cases y with
      | zero =>
        obtain rfl := Option.some.inj hq
        have := key x p hp h1
        unfold cnt at this
        rw [if_pos (by simpa using h2)] at h
        omega
      | succ y =>
        have := cnt_one (j := j) (b := b) (by unfold cnt; omega) x y p q hp hq h1 h2
        omega
/-- Nothing is found: all that was seen has an owner all whose values were seen. -/
structure FF (l : List (List Int)) (vs : List Int) (s : Seen) (b : By) (R : Bool × Seen × By) : Prop where
  all : R.1 = false → ∀ v ∈ vs, sees R.2.1 v
  own : R.1 = false → ∀ v, sees R.2.1 v → sees s v ∨ ∃ k, lkA b v = some k ∧ ∀ w ∈ l.getD k.toNat [], sees R.2.1 w
theorem tryL_ff {l : List (List Int)} {rec : Seen → By → Int → Bool × Seen × By} {i : Int} {f : Nat} (ht : ∀ s b k, TT k s b (rec s b k)) (hr : ∀ s b k, unseen l s < f → 0 ≤ k → k.toNat < l.length → ByIn l b → FF l (l.getD k.toNat []) s b (rec s b k)) : ∀ (vs : List Int) (s : Seen) (b : By), (∀ v ∈ vs, v ∈ l.flatten) → unseen l s < f + 1 → ByIn l b → FF l vs s b (tryL rec i vs s b)
  | [], s, b, _, _, _ => ⟨fun _ v hv => (by cases hv), fun _ v hv => .inl hv⟩
  | v :: vs, s, b, hv, hu, hb => by
    have hv2 : ∀ w ∈ vs, w ∈ l.flatten := fun w hw => hv w (.tail _ hw)
    rw [tryL]
    split
    · rename_i hs
      have h := tryL_ff (i := i) ht hr vs s b hv2 hu hb
      refine ⟨fun e w hw => ?_, h.own⟩
      cases hw with
      | head => exact (tryL_tt (i := i) ht vs s b).mono v hs
      | tail _ hw => exact h.all e w hw
    · rename_i hs
      split
      · exact ⟨fun h => (by cases h), fun h => (by cases h)⟩
      · rename_i k hk
        have hq := hb _ (lk_mem hk)
        have hlt := unseen_lt (hv v (.head _)) hs
        have h1 := hr (upA s v true) b k (by omega) hq.1 hq.2 hb
        have h2 := ht (upA s v true) b k
        split
        · exact ⟨fun h => (by cases h), fun h => (by cases h)⟩
        · rename_i s2 b2 e
          rw [e] at h1 h2
          obtain rfl : b2 = b := h2.no rfl
          have hsv : sees s2 v := h2.mono v (sees_up.2 (.inl rfl))
          have hle : unseen l s2 ≤ unseen l (upA s v true) := unseen_le fun w hw => h2.mono w hw
          have h3 := tryL_ff (i := i) ht hr vs s2 b2 hv2 (by omega) hb
          have h4 := tryL_tt (i := i) ht vs s2 b2
          refine ⟨fun e w hw => ?_, fun e w hw => ?_⟩
          · cases hw with
            | head => exact h4.mono v hsv
            | tail _ hw => exact h3.all e w hw
          · rcases h3.own e w hw with h5 | h5
            · rcases h1.own rfl w h5 with h6 | ⟨k2, h6, h7⟩
              · rcases sees_up.1 h6 with rfl | h6
                · exact .inr ⟨k, hk, fun u hu => h4.mono u (h1.all rfl u hu)⟩
                · exact .inl h6
              · exact .inr ⟨k2, h6, fun u hu => h4.mono u (h7 u hu)⟩
            · exact .inr h5
theorem mem_flat {l : List (List Int)} {i : Int} : ∀ v ∈ l.getD i.toNat [], v ∈ l.flatten := fun v hv => by
  by_cases h : i.toNat < l.length
  · rw [List.getD_eq_getElem?_getD, List.getElem?_eq_getElem h] at hv
    exact List.mem_flatten.2 ⟨_, List.getElem_mem h, hv⟩
  · rw [List.getD_eq_getElem?_getD, List.getElem?_eq_none (by omega)] at hv
    cases hv
theorem tryF_ff (l : List (List Int)) : ∀ (f : Nat) (i : Int) (s : Seen) (b : By), unseen l s < f → 0 ≤ i → i.toNat < l.length → ByIn l b → FF l (l.getD i.toNat []) s b (tryF l f i s b)
  | 0, i, s, b, h, _, _, _ => by omega
  | f + 1, i, s, b, h, _, _, hb => by
    rw [tryF]
    exact tryL_ff (fun s b k => tryF_tt l f k s b) (fun s b k h1 h2 h3 h4 => tryF_ff l f k s b h1 h2 h3 h4) _ _ _ mem_flat h hb

/-- Values, all others, one of each. -/
def Others (l : List (List Int)) (g : Nat → Int) : Prop := (∀ j, j < l.length → g j ∈ l.getD j []) ∧ ∀ j k, j < l.length → k < l.length → g j = g k → j = k
def dd : List Int → List Int
  | [] => []
  | x :: l => if x ∈ l then dd l else x :: dd l
theorem dd_mem {x : Int} : ∀ {l : List Int}, x ∈ dd l ↔ x ∈ l
  | [] => Iff.rfl
  | y :: l => by
    rw [dd]
    split
    · rename_i h
      rw [dd_mem, List.mem_cons]
      constructor
      · exact .inr
      · rintro (rfl | h2)
        · exact h
        · exact h2
    · rw [List.mem_cons, List.mem_cons, dd_mem]
theorem dd_nodup : ∀ l : List Int, (dd l).Nodup
  | [] => .nil
  | y :: l => by
    rw [dd]
    split
    · exact dd_nodup l
    · rename_i h
      exact List.nodup_cons.2 ⟨fun h2 => h (dd_mem.1 h2), dd_nodup l⟩
theorem nodup_sub {α : Type} [DecidableEq α] : ∀ {a b : List α}, a.Nodup → (∀ x ∈ a, x ∈ b) → a.length ≤ b.length
  | [], _, _, _ => Nat.zero_le _
  | x :: a, b, h, hs => by
    have hx : x ∈ b := hs x (.head _)
    obtain ⟨h1, h2⟩ := List.nodup_cons.1 h
    have := nodup_sub (b := b.erase x) h2 fun y hy => (List.mem_erase_of_ne (fun e => h1 (by rw [← e]; exact hy))).2 (hs y (.tail _ hy))
    rw [List.length_erase_of_mem hx] at this
    have := List.length_pos_of_mem hx
    rw [List.length_cons]
    omega
theorem nodup_map {α β : Type} {f : α → β} : ∀ {a : List α}, a.Nodup → (∀ x ∈ a, ∀ y ∈ a, f x = f y → x = y) → (a.map f).Nodup
  | [], _, _ => .nil
  | x :: a, h, hf => by
    obtain ⟨h1, h2⟩ := List.nodup_cons.1 h
    refine List.nodup_cons.2 ⟨fun h3 => ?_, nodup_map h2 fun y hy z hz => hf y (.tail _ hy) z (.tail _ hz)⟩
    obtain ⟨y, hy, e⟩ := List.mem_map.1 h3
    exact h1 (hf y (.tail _ hy) x (.head _) e ▸ hy)
theorem sees_key {s : Seen} {v : Int} (h : sees s v) : v ∈ s.map (·.1) := by
  unfold sees at h
  cases hk : lkA s v with
  | none => rw [hk] at h; cases h
  | some x => exact List.mem_map.2 ⟨_, lk_mem hk, rfl⟩
/-- One for whom nothing is found shows that there is nothing. -/
theorem give_none {l : List (List Int)} {i : Nat} {b : By} (hi : i < l.length) (hb : ByIn l b) (hc : ∀ j : Int, cnt b j = if 0 ≤ j ∧ j < (i : Nat) then 1 else 0) (hR : (giveP l (i : Nat) b).1 = false) (g : Nat → Int) : ¬ Others l g := by
  rintro ⟨hg, hinj⟩
  have hf := tryF_ff l (l.flatten.length + 1) (i : Nat) [] b (unseen_nil l) (by omega) (by omega) hb
  have h1 := hf.all hR
  have h2 := hf.own hR
  generalize hs : (giveP l (i : Nat) b).2.1 = s at *
  have h2 : ∀ v, sees s v → ∃ k, lkA b v = some k ∧ ∀ w ∈ l.getD k.toNat [], sees s w := fun v hv => by
    rcases h2 v hv with h | h
    · cases h
    · exact h
  let V := (dd (s.map (·.1))).filter fun v => (lkA s v).getD false
  have hV : ∀ v, v ∈ V ↔ sees s v := fun v => by
    rw [List.mem_filter, dd_mem]
    exact ⟨fun h => h.2, fun h => ⟨sees_key h, h⟩⟩
  have hVn : V.Nodup := (dd_nodup _).filter _
  let o : Int → Nat := fun v => ((lkA b v).getD 0).toNat
  have ho : ∀ v ∈ V, ∃ k : Int, lkA b v = some k ∧ o v = k.toNat ∧ 0 ≤ k ∧ k < (i : Nat) ∧ ∀ w ∈ l.getD (o v) [], sees s w := fun v hv => by
    obtain ⟨k, hk, hw⟩ := h2 v ((hV v).1 hv)
    have hm := lk_mem hk
    have h0 : 0 < cnt b k := List.countP_pos_iff.2 ⟨_, hm, by simp⟩
    rw [hc] at h0
    have : 0 ≤ k ∧ k < (i : Nat) := by
      by_cases e : 0 ≤ k ∧ k < (i : Nat)
      · exact e
      · rw [if_neg e] at h0; omega
    have e : o v = k.toNat := by show ((lkA b v).getD 0).toNat = _; rw [hk]; rfl
    exact ⟨k, hk, e, this.1, this.2, e ▸ hw⟩
  have hoi : ∀ v ∈ V, ∀ w ∈ V, o v = o w → v = w := fun v hv w hw e => by
    obtain ⟨k, hk, h1, h3, h4, _⟩ := ho v hv
    obtain ⟨k', hk', h1', h3', h4', _⟩ := ho w hw
    have ek : k = k' := by omega
    subst ek
    obtain ⟨x, hx⟩ := List.getElem?_of_mem (lk_mem hk)
    obtain ⟨y, hy⟩ := List.getElem?_of_mem (lk_mem hk')
    have := cnt_one (b := b) (j := k) (by rw [hc]; split <;> omega) x y _ _ hx hy rfl rfl
    subst this
    rw [hx] at hy
    exact congrArg Prod.fst (Option.some.inj hy)
  have hKn : (i :: V.map o).Nodup := List.nodup_cons.2 ⟨fun h => by
    obtain ⟨v, hv, e⟩ := List.mem_map.1 h
    obtain ⟨k, _, h1, h3, h4, _⟩ := ho v hv
    omega, nodup_map hVn hoi⟩
  have hKl : ∀ k ∈ i :: V.map o, k < l.length := fun k hk => by
    cases hk with
    | head => exact hi
    | tail _ hk =>
      obtain ⟨v, hv, rfl⟩ := List.mem_map.1 hk
      obtain ⟨k, _, h1, h3, h4, _⟩ := ho v hv
      omega
  have hgn : ((i :: V.map o).map g).Nodup := nodup_map hKn fun x hx y hy e => hinj x y (hKl x hx) (hKl y hy) e
  have hsub : ∀ x ∈ (i :: V.map o).map g, x ∈ V := fun x hx => by
    obtain ⟨k, hk, rfl⟩ := List.mem_map.1 hx
    rw [hV]
    have hgk := hg k (hKl k hk)
    cases hk with
    | head => exact h1 _ (by simpa using hgk)
    | tail _ hk =>
      obtain ⟨v, hv, rfl⟩ := List.mem_map.1 hk
      obtain ⟨k, _, _, _, _, h5⟩ := ho v hv
      exact h5 _ hgk
  have := nodup_sub hgn hsub
  simp at this
  omega
theorem giveAll_none {l : List (List Int)} {g : Nat → Int} (hg : Others l g) : ∀ (n i : Nat) (b : By), n + i = l.length → ByIn l b → (∀ j : Int, cnt b j = if 0 ≤ j ∧ j < (i : Nat) then 1 else 0) → giveAll l n i b ≠ none
  | 0, i, b, hi, hb, hc, h => by cases h
  | n + 1, i, b, hi, hb, hc, h => by
    have h1 := tryF_tt l (l.flatten.length + 1) (i : Nat) [] b
    have h2 := tryF_ok l (l.flatten.length + 1) (i : Nat) [] b (by omega) (by omega) hb
    have h3 := give_none (i := i) (by omega) hb hc
    rw [giveAll] at h
    generalize hT : giveP l (i : Nat) b = R at *
    rw [show tryF l (l.flatten.length + 1) (i : Nat) [] b = R from hT] at h1 h2
    obtain ⟨r, s, b3⟩ := R
    cases r with
    | false => exact h3 rfl g hg
    | true =>
      refine giveAll_none hg n (i + 1) b3 (by omega) h2.byIn (fun j => ?_) h
      have := h1.more rfl j
      simp only at this
      rw [this, hc j]
      by_cases e : ((i : Nat) : Int) = j
      · rw [if_pos e, if_neg (by omega), if_pos (by omega)]
      · rw [if_neg e]
        by_cases e2 : 0 ≤ j ∧ j < (i : Nat)
        · rw [if_pos e2, if_pos (by omega)]
        · rw [if_neg e2, if_neg (by omega)]
theorem matchP_some {l : List (List Int)} {g : Nat → Int} (hg : Others l g) : ∃ b, matchP l = some b := by
  cases h : matchP l with
  | some b => exact ⟨b, rfl⟩
  | none => exact absurd h (giveAll_none hg l.length 0 [] rfl (fun p hp => by cases hp) fun j => by rw [if_neg (by omega)]; rfl)
/-- The values that are told. -/
def solP (b : By) (n : Nat) : List Int := (List.range n).map fun (j : Nat) => ((b.find? fun p => decide (p.2 = (j : Int))).map (·.1)).getD 0
theorem solP_at {l : List (List Int)} {b : By} (h : matchP l = some b) {p : Int × Int} (hp : p ∈ b) : 0 ≤ p.2 ∧ p.2.toNat < l.length ∧ (solP b l.length)[p.2.toNat]? = some p.1 := by
  obtain ⟨_, hc⟩ := matchP_ok h
  have h0 : 0 < cnt b p.2 := List.countP_pos_iff.2 ⟨_, hp, by simp⟩
  have hr : 0 ≤ p.2 ∧ p.2 < (l.length : Nat) := by
    rw [hc] at h0
    by_cases e : 0 ≤ p.2 ∧ p.2 < (l.length : Nat)
    · exact e
    · rw [if_neg e] at h0; omega
  refine ⟨hr.1, by omega, ?_⟩
  unfold solP
  rw [List.getElem?_map, List.getElem?_range (by omega)]
  simp only [Option.map_some, Option.some.injEq]
  have e : ((p.2.toNat : Nat) : Int) = p.2 := by omega
  rw [e]
  cases hf : b.find? fun q => decide (q.2 = p.2) with
  | none => exact absurd (List.find?_eq_none.1 hf p hp) (by simp)
  | some q =>
    have hq := List.mem_of_find?_eq_some hf
    have hq2 : q.2 = p.2 := by simpa using List.find?_some hf
    obtain ⟨x, hx⟩ := List.getElem?_of_mem hp
    obtain ⟨y, hy⟩ := List.getElem?_of_mem hq
    have := cnt_one (b := b) (j := p.2) (by rw [hc]; split <;> omega) x y _ _ hx hy rfl hq2
    subst this
    rw [hx] at hy
    rw [← Option.some.inj hy]; rfl
theorem solP_len (b : By) (n : Nat) : (solP b n).length = n := by simp [solP]
theorem cover {l : List (List Int)} {b : By} (h : matchP l = some b) {j : Nat} (hj : j < l.length) : ∃ p ∈ b, p.2 = (j : Int) := by
  obtain ⟨_, hc⟩ := matchP_ok h
  exact cnt_mem (by rw [hc, if_pos (by omega)]; omega)
theorem solP_others {l : List (List Int)} {b : By} (h : matchP l = some b) (hk : (b.map (·.1)).Nodup) : Others l fun j => (solP b l.length).getD j 0 := by
  obtain ⟨hf, hc⟩ := matchP_ok h
  have hj : ∀ j, j < l.length → ∃ p ∈ b, p.2 = (j : Int) ∧ (solP b l.length).getD j 0 = p.1 := fun j hj => by
    obtain ⟨p, hp, e⟩ := cover h hj
    have h2 := (solP_at h hp).2.2
    rw [e] at h2
    refine ⟨p, hp, e, ?_⟩
    rw [List.getD_eq_getElem?_getD, show j = ((j : Nat) : Int).toNat by omega, h2]; rfl
  refine ⟨fun j h1 => ?_, fun j k h1 h2 e => ?_⟩
  · obtain ⟨p, hp, e1, e2⟩ := hj j h1
    have := hf p hp
    rw [e1] at this
    show (solP b l.length).getD j 0 ∈ _
    rw [e2]; simpa using this
  · obtain ⟨p, hp, e1, e2⟩ := hj j h1
    obtain ⟨q, hq, e3, e4⟩ := hj k h2
    have e : p.1 = q.1 := by
      have e : (solP b l.length).getD j 0 = (solP b l.length).getD k 0 := e
      rw [e2, e4] at e; exact e
    have : p = q := by
      obtain ⟨x, hx⟩ := List.getElem?_of_mem hp
      obtain ⟨y, hy⟩ := List.getElem?_of_mem hq
      have hx1 : (b.map (·.1))[x]? = some p.1 := by rw [List.getElem?_map, hx]; rfl
      have hy1 : (b.map (·.1))[y]? = some p.1 := by rw [List.getElem?_map, hy, e]; rfl
      have : x = y := by
        obtain ⟨h3, h4⟩ := List.getElem?_eq_some_iff.1 hx1
        obtain ⟨h5, h6⟩ := List.getElem?_eq_some_iff.1 hy1
        exact (List.getElem_inj hk).1 (h4.trans h6.symm)
      subst this
      rw [hx] at hy; exact Option.some.inj hy
    rw [this] at e1
    omega
def KeysN (b : By) : Prop := (b.map (·.1)).Nodup
theorem KeysN.up {v i : Int} : ∀ {b : By}, KeysN b → KeysN (upA b v i)
  | [], _ => by
    show List.Nodup [v]
    simp
  | p :: b, h => by
    obtain ⟨h1, h2⟩ := List.nodup_cons.1 (show (p.1 :: b.map (·.1)).Nodup from h)
    rw [up_cons]
    split
    · rename_i e
      show (v :: b.map (·.1)).Nodup
      rw [← e]
      exact h
    · rename_i e
      refine List.nodup_cons.2 ⟨fun h3 => ?_, KeysN.up h2⟩
      obtain ⟨q, hq, e2⟩ := List.mem_map.1 h3
      rcases mem_upA hq with hq | rfl
      · exact h1 (List.mem_map.2 ⟨q, hq, e2⟩)
      · exact e e2.symm
theorem tryL_kn {rec : Seen → By → Int → Bool × Seen × By} {i : Int} (hr : ∀ s b k, KeysN b → KeysN (rec s b k).2.2) : ∀ (vs : List Int) (s : Seen) (b : By), KeysN b → KeysN (tryL rec i vs s b).2.2
  | [], s, b, hb => hb
  | v :: vs, s, b, hb => by
    rw [tryL]
    split
    · exact tryL_kn hr vs s b hb
    · split
      · exact hb.up
      · rename_i k _
        have h1 := hr (upA s v true) b k hb
        split
        · rename_i s2 b2 e
          rw [e] at h1
          exact KeysN.up h1
        · rename_i s2 b2 e
          rw [e] at h1
          exact tryL_kn hr vs s2 b2 h1
theorem tryF_kn (l : List (List Int)) : ∀ (f : Nat) (i : Int) (s : Seen) (b : By), KeysN b → KeysN (tryF l f i s b).2.2
  | 0, i, s, b, h => h
  | f + 1, i, s, b, h => by
    rw [tryF]
    exact tryL_kn (fun s b k h => tryF_kn l f k s b h) _ _ _ h
theorem giveAll_kn {l : List (List Int)} : ∀ (n i : Nat) (b b2 : By), KeysN b → giveAll l n i b = some b2 → KeysN b2
  | 0, i, b, b2, hb, h => by cases h; exact hb
  | n + 1, i, b, b2, hb, h => by
    have h2 := tryF_kn l (l.flatten.length + 1) (i : Nat) [] b hb
    rw [giveAll] at h
    generalize hT : giveP l (i : Nat) b = R at *
    rw [show tryF l (l.flatten.length + 1) (i : Nat) [] b = R from hT] at h2
    obtain ⟨r, s, b3⟩ := R
    cases r with
    | false => cases h
    | true => exact giveAll_kn n (i + 1) b3 b2 h2 h
theorem matchP_kn {l : List (List Int)} {b : By} (h : matchP l = some b) : KeysN b := giveAll_kn _ _ _ _ (by show List.Nodup []; exact .nil) h
/-- What is told, and whether. -/
def matchR (l : List (List Int)) : List Int × Bool := match matchP l with | some b => (solP b l.length, true) | none => ([], false)
theorem matchR_iff (l : List (List Int)) : (matchR l).2 = true ↔ ∃ g, Others l g := by
  unfold matchR
  cases h : matchP l with
  | some b => exact ⟨fun _ => ⟨_, solP_others h (matchP_kn h)⟩, fun _ => rfl⟩
  | none =>
    refine ⟨fun h => (by cases h), fun ⟨g, hg⟩ => ?_⟩
    obtain ⟨b, hb⟩ := matchP_some hg
    rw [h] at hb; cases hb
theorem matchR_ok {l : List (List Int)} (h : (matchR l).2 = true) : (matchR l).1.length = l.length ∧ Others l fun j => (matchR l).1.getD j 0 := by
  unfold matchR at *
  cases hb : matchP l with
  | none => rw [hb] at h; cases h
  | some b => exact ⟨solP_len _ _, solP_others hb (matchP_kn hb)⟩
end Go.Proofs.Ytdflkbmpbblcfaa
/-! The shelf's contract of slices.Sort, laid (lay-shelf.mjs, lay-plain.mjs), with names for numbers. -/
namespace Go.Proofs.Ytdflkbmpbblcfaa
open Go Go.Shelf Go.RowKit
def sortLays_ren : Go.Shelf.Ren := ⟨fun | 189 => 56 | 125 => 61 | 257 => 60 | 128 => 71 | 129 => 72 | 294 => 62 | 295 => 63 | 296 => 64 | 297 => 65 | 298 => 66 | 299 => 67 | 216 => 68 | 300 => 69 | 301 => 70 | 328 => 73 | 329 => 74 | 330 => 75 | 331 => 76 | 332 => 77 | 215 => 78 | 343 => 79 | n => n, fun | 28 => 23 | 3 => 3 | 46 => 86 | 0 => 0 | 51 => 95 | 53 => 97 | 4 => 4 | 183 => 89 | 182 => 88 | 131 => 80 | 5 => 5 | 9 => 9 | 218 => 98 | 222 => 102 | 228 => 104 | 229 => 105 | n => n, fun | n => n⟩
theorem sortLays : Go.Proofs.Lays.n189 Try.prog sortLays_ren := {
  mixed := by kernel_rfl
  f125 := Try.func61.trans (congrArg some (by kernel_rfl))
  f128 := Try.func71.trans (congrArg some (by kernel_rfl))
  f129 := Try.func72.trans (congrArg some (by kernel_rfl))
  f189 := Try.func56.trans (congrArg some (by kernel_rfl))
  f215 := Try.func78.trans (congrArg some (by kernel_rfl))
  f216 := Try.func68.trans (congrArg some (by kernel_rfl))
  f257 := Try.func60.trans (congrArg some (by kernel_rfl))
  f294 := Try.func62.trans (congrArg some (by kernel_rfl))
  f295 := Try.func63.trans (congrArg some (by kernel_rfl))
  f296 := Try.func64.trans (congrArg some (by kernel_rfl))
  f297 := Try.func65.trans (congrArg some (by kernel_rfl))
  f298 := Try.func66.trans (congrArg some (by kernel_rfl))
  f299 := Try.func67.trans (congrArg some (by kernel_rfl))
  f300 := Try.func69.trans (congrArg some (by kernel_rfl))
  f301 := Try.func70.trans (congrArg some (by kernel_rfl))
  f328 := Try.func73.trans (congrArg some (by kernel_rfl))
  f329 := Try.func74.trans (congrArg some (by kernel_rfl))
  f330 := Try.func75.trans (congrArg some (by kernel_rfl))
  f331 := Try.func76.trans (congrArg some (by kernel_rfl))
  f332 := Try.func77.trans (congrArg some (by kernel_rfl))
  f343 := Try.func79.trans (congrArg some (by kernel_rfl))
  t0 := Try.underlying0
  a0 := Try.isAgg0
  z0 := Try.sizeOf0
  v0 := Try.zeroValue0
  t3 := Try.underlying3
  a3 := Try.isAgg3
  z3 := Try.sizeOf3
  v3 := Try.zeroValue3
  t4 := Try.underlying4
  a4 := Try.isAgg4
  z4 := Try.sizeOf4
  v4 := Try.zeroValue4
  t5 := Try.underlying5
  a5 := Try.isAgg5
  z5 := Try.sizeOf5
  v5 := Try.zeroValue5
  t9 := Try.underlying9
  a9 := Try.isAgg9
  z9 := Try.sizeOf9
  v9 := Try.zeroValue9
  t28 := Try.underlying23
  a28 := Try.isAgg23
  z28 := Try.sizeOf23
  v28 := Try.zeroValue23
  t46 := Try.underlying86
  a46 := Try.isAgg86
  z46 := Try.sizeOf86
  v46 := Try.zeroValue86
  t51 := Try.underlying95
  a51 := Try.isAgg95
  z51 := Try.sizeOf95
  v51 := Try.zeroValue95
  t53 := Try.underlying97
  a53 := Try.isAgg97
  z53 := Try.sizeOf97
  v53 := Try.zeroValue97
  t131 := Try.underlying80
  a131 := Try.isAgg80
  z131 := Try.sizeOf80
  v131 := Try.zeroValue80
  t182 := Try.underlying88
  a182 := Try.isAgg88
  z182 := Try.sizeOf88
  v182 := Try.zeroValue88
  t183 := Try.underlying89
  a183 := Try.isAgg89
  z183 := Try.sizeOf89
  v183 := Try.zeroValue89
  t218 := Try.underlying98
  a218 := Try.isAgg98
  z218 := Try.sizeOf98
  v218 := Try.zeroValue98
  t222 := Try.underlying102
  a222 := Try.isAgg102
  z222 := Try.sizeOf102
  v222 := Try.zeroValue102
  t228 := Try.underlying104
  a228 := Try.isAgg104
  z228 := Try.sizeOf104
  v228 := Try.zeroValue104
  t229 := Try.underlying105
  a229 := Try.isAgg105
  z229 := Try.sizeOf105
  v229 := Try.zeroValue105 }
open Go.Sort Go.RowKit in
theorem sort_calls (blk off cap : Nat) (zs : List Int) (w : World) (hH : Holds (Value.int .i64) w blk off zs.toArray) (hblk : blk < w.heap.size) (hsz : zs.length < 4611686018427387904) :
    Calls Try.prog 56 #[.slice (some ⟨blk, off, none⟩) zs.length cap] w fun e w' =>
      e = .returned (.tuple #[]) ∧ ∃ n os, w' = grow (putRow (Value.int .i64) (Sort.ahead w n) blk off (zs.mergeSort fun x y => decide (x ≤ y)).toArray) os := Any.slices_Sort_int sortLays blk off cap zs w hH hblk hsz
open Go.RowKit Go.Sort in
/-- .. and plain. (LAID: no walk: one application.) -/
theorem sort_calls_none (p : Option Addr) (cap : Nat) (w : World) :
    Calls Try.prog 56 #[.slice p 0 cap] w fun e w' => e = .returned (.tuple #[]) ∧ w' = w := Any.slices_Sort_int_none sortLays p cap w
end Go.Proofs.Ytdflkbmpbblcfaa
/-! Contracts: slices.Sort, slices.Sorted, dom.Of. -/
namespace Go.Proofs.Ytdflkbmpbblcfaa
open Go Go.RowKit
set_option linter.unusedVariables false
set_option linter.unusedSimpArgs false
set_option maxRecDepth 8000

def sortI (l : List Int) : List Int := l.mergeSort fun x y => decide (x ≤ y)
theorem ints_rep {w : World} {Z : Nat → Prop} : ∀ {xs : List Int} {vs : List Value}, L2 (Rep w Z) vs (xs.map (PV.int .i64)) → vs = xs.map (Value.int .i64)
  | [], _, .nil => rfl
  | x :: xs, _, .cons h h2 => by
    cases h
    rw [ints_rep h2]; rfl
theorem rep_intsL {w : World} {Z : Nat → Prop} : ∀ (xs : List Int), L2 (Rep w Z) (xs.map (Value.int .i64)) (xs.map (PV.int .i64))
  | [] => .nil
  | x :: xs => .cons (.int _ _) (rep_intsL xs)
theorem sort_specM (l : List Int) (hl : l.length * 8 ≤ 140737488355328) : SpecM Try.prog 56 3 1 (l.map cI) [] ((sortI l).map cI) [] := by
  have hsl : (sortI l).length = l.length := List.length_mergeSort ..
  refine ⟨⟨_, Try.func56, rfl, rfl⟩, fun p hp => (by cases hp), fun w Z1 v0 vs ho hz hvs => ?_⟩
  cases hvs
  obtain ⟨xs, hrow, hx, h1, h2⟩ := ho
  rw [show (l.map cI).flatten = l.map (PV.int .i64) from flat1 _ l] at hx
  obtain rfl := ints_rep hx
  rw [List.length_map] at hrow
  obtain ⟨hln, hrow⟩ := hrow
  rcases hrow with ⟨rfl, hnil⟩ | ⟨g, cap, cur, rfl, _, hb, hcap, hmax, hsz, htk⟩
  · obtain rfl : l = [] := by simpa using hnil
    refine (sort_calls_none none 0 w).mono ?_
    rintro e w' ⟨rfl, rfl⟩
    refine ⟨[], rfl, rfl, rfl, rfl, Nat.le_refl _, fun _ _ _ => rfl, ?_, .nil⟩
    rw [show sortI [] = [] from List.mergeSort_nil ..]
    refine ⟨[], ⟨rfl, .inl ⟨rfl, rfl⟩⟩, .nil, ?_, ?_⟩ <;> (intro r hr; cases hr)
  · have hg : g < w.heap.size := (Array.getElem?_eq_some_iff.1 hb).1
    rw [Nat.mul_one] at htk
    refine (sort_calls g 0 cap l w (holds_of_blockI hb htk) hg (by omega)).mono ?_
    rintro e w' ⟨rfl, n, os, rfl⟩
    have hgr := grownBy_sortedI (n := n) (os := os) (w := w) (g := g) (sortI l).toArray
    refine ⟨[], rfl, hgr.os, hgr.tape, hgr.output, hgr.size, fun b hb1 hb2 => hgr.block b hb1 (fun e => hb2 (by simpa [VB, vblock] using e.symm)), ?_, .nil⟩
    have hr := ownsRow_sortedI (base := 0) (n := n) (os := os) (ts := sortI l) hsl (Nat.zero_le _) hb hcap hmax hsz
    refine ⟨(sortI l).map (Value.int .i64), ?_, ?_, fun r hr => by obtain ⟨x, _, rfl⟩ := List.mem_map.1 hr; rfl, fun r hr p hp => by obtain ⟨x, _, rfl⟩ := List.mem_map.1 hr; simp [cI] at hp; rw [hp]; rfl⟩
    · rw [List.length_map, hsl]; exact hr
    · rw [show ((sortI l).map cI).flatten = (sortI l).map (PV.int .i64) from flat1 _ _]
      exact rep_intsL _
theorem ssorted_spec (l : List Int) (hl : l.length * 8 ≤ 140737488351232) : Spec Try.prog 43 false [.fn (.func 57) [] [.ptr [ints l]]] [.own 3 1 ((sortI l).map cI)] := by
  refine Spec.body Try.func43 rfl rfl rfl fun w0 Z0 => ?_
  have hc := collect_spec (g := 57) (caps := [.ptr [ints l]]) (xs := l) (enters_of Try.func57 (by kernel_rfl) rfl) (fun w Z us h => by
    cases h with
    | cons h1 h2 => cases h2; exact values1_gives 0 0 l hl w _ h1) (by omega)
  repeat' ((first | refine T.G rfl ?_ | refine J.G rfl ?_ | refine J.H rfl ?_ | refine T.rd rfl (by decide +kernel) ?_ | fail); conv => whnf)
  refine J.cc rfl rfl rfl rfl rfl hc rfl rfl ?_
  repeat' ((first | refine T.G rfl ?_ | refine J.G rfl ?_ | refine J.H rfl ?_ | refine T.rd rfl (by decide +kernel) ?_ | fail); conv => whnf)
  refine J.cm rfl rfl rfl rfl rfl rfl rfl rfl rfl (sort_specM l (by omega)) rfl rfl rfl ?_
  repeat' ((first | refine T.G rfl ?_ | refine J.G rfl ?_ | refine J.H rfl ?_ | refine T.rd rfl (by decide +kernel) ?_ | fail); conv => whnf)
  exact ⟨_, .o rfl rfl rfl (fun _ => .inl rfl) (by simp) .nil⟩
def domOfP (l : List Int) : List (Int × Int) × Int := if l.all valueB = true then (if sizeW (packG (sortI l)) > 4096 then ([], 2) else (packG (sortI l), 0)) else ([], 20)
theorem domOf_spec (l : List Int) (hl : l.length * 16 ≤ 140737488351232) : Spec Try.prog 28 false [ints l] [.own 38 2 ((domOfP l).1.map cR), .val (.int .i64 (domOfP l).2)] := by
  refine Spec.body Try.func28 rfl rfl rfl fun w0 Z0 => ?_
  have hc := containsF_spec (p := fun v => !valueB v) (f := 40) l (fun v _ => of1_spec v) (by omega)
  have hsl : (sortI l).length = l.length := List.length_mergeSort ..
  have hpg := packG_len (sortI l)
  repeat' ((first | refine T.G rfl ?_ | refine J.G rfl ?_ | refine J.H rfl ?_ | refine T.rd rfl (by decide +kernel) ?_ | fail); conv => whnf)
  refine J.cc rfl rfl rfl rfl rfl hc rfl rfl ?_
  repeat' ((first | refine T.G rfl ?_ | refine J.G rfl ?_ | refine J.H rfl ?_ | refine T.rd rfl (by decide +kernel) ?_ | fail); conv => whnf)
  have hany : (l.any fun v => !valueB v) = !l.all valueB := by
    rw [List.not_all_eq_any_not]
  rw [hany]
  unfold domOfP
  cases ha : l.all valueB with
  | false =>
    refine T.ct rfl ?_
    repeat' ((first | refine T.G rfl ?_ | refine J.G rfl ?_ | refine J.H rfl ?_ | refine T.rd rfl (by decide +kernel) ?_ | fail); conv => whnf)
    exact ⟨_, .ownN rfl (.v rfl rfl rfl (fun _ => rfl) .nil)⟩
  | true =>
    refine T.cf rfl ?_
    have hvs : ∀ v ∈ sortI l, valueB v = true := fun v hv => List.all_eq_true.1 ha v ((List.mergeSort_perm l _).mem_iff.1 hv)
    repeat' ((first | refine T.G rfl ?_ | refine J.G rfl ?_ | refine J.H rfl ?_ | refine T.rd rfl (by decide +kernel) ?_ | fail); conv => whnf)
    refine J.cc rfl rfl rfl rfl rfl (svals_spec l) rfl rfl ?_
    repeat' ((first | refine T.G rfl ?_ | refine J.G rfl ?_ | refine J.H rfl ?_ | refine T.rd rfl (by decide +kernel) ?_ | fail); conv => whnf)
    refine J.cc rfl rfl rfl rfl rfl (ssorted_spec l (by omega)).frz rfl rfl ?_
    repeat' ((first | refine T.G rfl ?_ | refine J.G rfl ?_ | refine J.H rfl ?_ | refine T.rd rfl (by decide +kernel) ?_ | fail); conv => whnf)
    refine J.cc rfl rfl rfl rfl rfl (packed_spec (sortI l) hvs (by omega)) rfl rfl ?_
    repeat' ((first | refine T.G rfl ?_ | refine J.G rfl ?_ | refine J.H rfl ?_ | refine T.rd rfl (by decide +kernel) ?_ | fail); conv => whnf)
    refine J.cc rfl rfl rfl rfl rfl (size_spec (packG (sortI l)) (by omega)) rfl rfl ?_
    repeat' ((first | refine T.G rfl ?_ | refine J.G rfl ?_ | refine J.H rfl ?_ | refine T.rd rfl (by decide +kernel) ?_ | fail); conv => whnf)
    refine T.cd rfl (fun h => ?_) (fun h => ?_)
    · rw [if_pos rfl, if_pos h]
      repeat' ((first | refine T.G rfl ?_ | refine J.G rfl ?_ | refine J.H rfl ?_ | refine T.rd rfl (by decide +kernel) ?_ | fail); conv => whnf)
      exact ⟨_, .ownN rfl (.v rfl rfl rfl (fun _ => rfl) .nil)⟩
    · rw [if_pos rfl, if_neg h]
      repeat' ((first | refine T.G rfl ?_ | refine J.G rfl ?_ | refine J.H rfl ?_ | refine T.rd rfl (by decide +kernel) ?_ | fail); conv => whnf)
      exact ⟨_, .o rfl rfl rfl (fun _ => .inl rfl) (by simp) (.v rfl rfl rfl (fun _ => rfl) .nil)⟩
end Go.Proofs.Ytdflkbmpbblcfaa
