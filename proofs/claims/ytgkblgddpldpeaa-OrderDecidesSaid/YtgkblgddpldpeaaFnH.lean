/- Contracts: the place at which two lists in order are looked at. -/
import Derived.Test.YtgkblgddpldpeaaFnG
namespace Go.Proofs.Ytgkblgddpldpeaa
open Go Go.RowKit
set_option linter.unusedVariables false
set_option maxRecDepth 4000

def ofD (d : List (Int × Int)) : Int × Int := (leastR d, lastR d)
theorem dof_spec (d : List (Int × Int)) (hd : d.length * 8 ≤ 140737488355328) : Spec Try.prog 28 false [dm d] [.val (.agg [.int .i64 (leastR d), .int .i64 (lastR d)])] := by
  refine Spec.body Try.func28 rfl rfl rfl fun w0 Z0 => ?_
  repeat' first | refine T.seq ?_ | refine T.block ?_ | refine T.r ?_ | refine J.e rfl rfl rfl rfl ?_ | refine J.nil ?_ | refine J.skip rfl rfl rfl ?_ | refine T.skip ?_ | refine T.exit ?_ | refine T.ret ?_ | refine T.rd rfl (by kernel_rfl) ?_ | refine J.bx rfl rfl rfl rfl rfl rfl ?_
  refine J.al rfl rfl rfl rfl rfl rfl rfl ?_
  repeat' first | refine T.seq ?_ | refine T.block ?_ | refine T.r ?_ | refine J.e rfl rfl rfl rfl ?_ | refine J.nil ?_ | refine J.skip rfl rfl rfl ?_ | refine T.skip ?_ | refine T.exit ?_ | refine T.ret ?_ | refine T.rd rfl (by kernel_rfl) ?_ | refine J.bx rfl rfl rfl rfl rfl rfl ?_
  refine J.cc rfl rfl rfl rfl rfl (least_spec d) rfl rfl ?_
  repeat' first | refine T.seq ?_ | refine T.block ?_ | refine T.r ?_ | refine J.e rfl rfl rfl rfl ?_ | refine J.nil ?_ | refine J.skip rfl rfl rfl ?_ | refine T.skip ?_ | refine T.exit ?_ | refine T.ret ?_ | refine T.rd rfl (by kernel_rfl) ?_ | refine J.bx rfl rfl rfl rfl rfl rfl ?_
  refine J.cc rfl rfl rfl rfl rfl (most_spec d hd) rfl rfl ?_
  repeat' first | refine T.seq ?_ | refine T.block ?_ | refine T.r ?_ | refine J.e rfl rfl rfl rfl ?_ | refine J.nil ?_ | refine J.skip rfl rfl rfl ?_ | refine T.skip ?_ | refine T.exit ?_ | refine T.ret ?_ | refine T.rd rfl (by kernel_rfl) ?_ | refine J.bx rfl rfl rfl rfl rfl rfl ?_
  refine J.w rfl rfl rfl rfl rfl rfl rfl rfl rfl rfl ?_
  repeat' first | refine T.seq ?_ | refine T.block ?_ | refine T.r ?_ | refine J.e rfl rfl rfl rfl ?_ | refine J.nil ?_ | refine J.skip rfl rfl rfl ?_ | refine T.skip ?_ | refine T.exit ?_ | refine T.ret ?_ | refine T.rd rfl (by kernel_rfl) ?_ | refine J.bx rfl rfl rfl rfl rfl rfl ?_
  exact ⟨_, .c rfl rfl rfl rfl (fun _ => rfl) .nil⟩

def knownB (a b : Int) (da db : List (Int × Int)) : Bool := decide (a = b) || (decide (0 < da.length) && decide (0 < db.length) && decide (leastR da = lastR da) && decide (ofD da = ofD db))
theorem known_spec (d : List (List (Int × Int))) (a b : Int) (da db : List (Int × Int)) (ha : 0 ≤ a) (hb : 0 ≤ b) (hda : d[a.toNat]? = some da) (hdb : d[b.toNat]? = some db) (hla : da.length * 8 ≤ 140737488355328) (hlb : db.length * 8 ≤ 140737488355328) :
    Spec Try.prog 32 false [doms d, .int .i64 a, .int .i64 b] [.val (.bool (knownB a b da db))] := by
  refine Spec.body Try.func32 rfl rfl rfl fun w0 Z0 => ?_
  have ra : (d.map cD)[a.toNat]? = some (cD da) := by simp [hda]
  have rb : (d.map cD)[b.toNat]? = some (cD db) := by simp [hdb]
  repeat' first | refine T.seq ?_ | refine T.block ?_ | refine T.r ?_ | refine J.e rfl rfl rfl rfl ?_ | refine J.nil ?_ | refine J.skip rfl rfl rfl ?_ | refine T.skip ?_ | refine T.exit ?_ | refine T.ret ?_ | refine T.rd rfl (by kernel_rfl) ?_ | refine J.bx rfl rfl rfl rfl rfl rfl ?_
  refine J.i rfl rfl rfl rfl rfl rfl rfl rfl rfl (r := cD da) ha ra rfl ?_
  repeat' first | refine T.seq ?_ | refine T.block ?_ | refine T.r ?_ | refine J.e rfl rfl rfl rfl ?_ | refine J.nil ?_ | refine J.skip rfl rfl rfl ?_ | refine T.skip ?_ | refine T.exit ?_ | refine T.ret ?_ | refine T.rd rfl (by kernel_rfl) ?_ | refine J.bx rfl rfl rfl rfl rfl rfl ?_
  refine J.cc rfl rfl rfl rfl rfl (dof_spec da hla) rfl rfl ?_
  repeat' first | refine T.seq ?_ | refine T.block ?_ | refine T.r ?_ | refine J.e rfl rfl rfl rfl ?_ | refine J.nil ?_ | refine J.skip rfl rfl rfl ?_ | refine T.skip ?_ | refine T.exit ?_ | refine T.ret ?_ | refine T.rd rfl (by kernel_rfl) ?_ | refine J.bx rfl rfl rfl rfl rfl rfl ?_
  refine J.al rfl rfl rfl rfl rfl rfl rfl ?_
  refine J.w rfl rfl rfl rfl rfl rfl rfl rfl rfl rfl ?_
  repeat' first | refine T.seq ?_ | refine T.block ?_ | refine T.r ?_ | refine J.e rfl rfl rfl rfl ?_ | refine J.nil ?_ | refine J.skip rfl rfl rfl ?_ | refine T.skip ?_ | refine T.exit ?_ | refine T.ret ?_ | refine T.rd rfl (by kernel_rfl) ?_ | refine J.bx rfl rfl rfl rfl rfl rfl ?_
  refine J.g rfl rfl rfl (fun h1 => ?_) (fun h1 => ?_)
  · repeat' first | refine T.seq ?_ | refine T.block ?_ | refine T.r ?_ | refine J.e rfl rfl rfl rfl ?_ | refine J.nil ?_ | refine J.skip rfl rfl rfl ?_ | refine T.skip ?_ | refine T.exit ?_ | refine T.ret ?_ | refine T.rd rfl (by kernel_rfl) ?_ | refine J.bx rfl rfl rfl rfl rfl rfl ?_
    exact ⟨_, .v rfl rfl (by simp [knownB, show a = b from h1]) (fun _ => rfl) .nil⟩
  · repeat' first | refine T.seq ?_ | refine T.block ?_ | refine T.r ?_ | refine J.e rfl rfl rfl rfl ?_ | refine J.nil ?_ | refine J.skip rfl rfl rfl ?_ | refine T.skip ?_ | refine T.exit ?_ | refine T.ret ?_ | refine T.rd rfl (by kernel_rfl) ?_ | refine J.bx rfl rfl rfl rfl rfl rfl ?_
    refine J.i rfl rfl rfl rfl rfl rfl rfl rfl rfl (r := cD da) ha ra rfl ?_
    repeat' first | refine T.seq ?_ | refine T.block ?_ | refine T.r ?_ | refine J.e rfl rfl rfl rfl ?_ | refine J.nil ?_ | refine J.skip rfl rfl rfl ?_ | refine T.skip ?_ | refine T.exit ?_ | refine T.ret ?_ | refine T.rd rfl (by kernel_rfl) ?_ | refine J.bx rfl rfl rfl rfl rfl rfl ?_
    refine J.g rfl rfl rfl (fun h2 => ?_) (fun h2 => ?_)
    · repeat' first | refine T.seq ?_ | refine T.block ?_ | refine T.r ?_ | refine J.e rfl rfl rfl rfl ?_ | refine J.nil ?_ | refine J.skip rfl rfl rfl ?_ | refine T.skip ?_ | refine T.exit ?_ | refine T.ret ?_ | refine T.rd rfl (by kernel_rfl) ?_ | refine J.bx rfl rfl rfl rfl rfl rfl ?_
      refine J.i rfl rfl rfl rfl rfl rfl rfl rfl rfl (r := cD db) hb rb rfl ?_
      repeat' first | refine T.seq ?_ | refine T.block ?_ | refine T.r ?_ | refine J.e rfl rfl rfl rfl ?_ | refine J.nil ?_ | refine J.skip rfl rfl rfl ?_ | refine T.skip ?_ | refine T.exit ?_ | refine T.ret ?_ | refine T.rd rfl (by kernel_rfl) ?_ | refine J.bx rfl rfl rfl rfl rfl rfl ?_
      refine J.g rfl rfl rfl (fun h3 => ?_) (fun h3 => ?_)
      · repeat' first | refine T.seq ?_ | refine T.block ?_ | refine T.r ?_ | refine J.e rfl rfl rfl rfl ?_ | refine J.nil ?_ | refine J.skip rfl rfl rfl ?_ | refine T.skip ?_ | refine T.exit ?_ | refine T.ret ?_ | refine T.rd rfl (by kernel_rfl) ?_ | refine J.bx rfl rfl rfl rfl rfl rfl ?_
        refine J.g rfl rfl rfl (fun h4 => ?_) (fun h4 => ?_)
        · repeat' first | refine T.seq ?_ | refine T.block ?_ | refine T.r ?_ | refine J.e rfl rfl rfl rfl ?_ | refine J.nil ?_ | refine J.skip rfl rfl rfl ?_ | refine T.skip ?_ | refine T.exit ?_ | refine T.ret ?_ | refine T.rd rfl (by kernel_rfl) ?_ | refine J.bx rfl rfl rfl rfl rfl rfl ?_
          refine J.i rfl rfl rfl rfl rfl rfl rfl rfl rfl (r := cD db) hb rb rfl ?_
          repeat' first | refine T.seq ?_ | refine T.block ?_ | refine T.r ?_ | refine J.e rfl rfl rfl rfl ?_ | refine J.nil ?_ | refine J.skip rfl rfl rfl ?_ | refine T.skip ?_ | refine T.exit ?_ | refine T.ret ?_ | refine T.rd rfl (by kernel_rfl) ?_ | refine J.bx rfl rfl rfl rfl rfl rfl ?_
          refine J.cc rfl rfl rfl rfl rfl (dof_spec db hlb) rfl rfl ?_
          repeat' first | refine T.seq ?_ | refine T.block ?_ | refine T.r ?_ | refine J.e rfl rfl rfl rfl ?_ | refine J.nil ?_ | refine J.skip rfl rfl rfl ?_ | refine T.skip ?_ | refine T.exit ?_ | refine T.ret ?_ | refine T.rd rfl (by kernel_rfl) ?_ | refine J.bx rfl rfl rfl rfl rfl rfl ?_
          refine J.se [leastR da, lastR da] [leastR db, lastR db] rfl rfl rfl rfl rfl rfl rfl rfl (by kernel_rfl) (by kernel_rfl) (by kernel_rfl) (by kernel_rfl) rfl rfl (.inl rfl) ?_
          repeat' first | refine T.seq ?_ | refine T.block ?_ | refine T.r ?_ | refine J.e rfl rfl rfl rfl ?_ | refine J.nil ?_ | refine J.skip rfl rfl rfl ?_ | refine T.skip ?_ | refine T.exit ?_ | refine T.ret ?_ | refine T.rd rfl (by kernel_rfl) ?_ | refine J.bx rfl rfl rfl rfl rfl rfl ?_
          refine ⟨_, .v rfl rfl ?_ (fun _ => rfl) .nil⟩
          have h2 : 0 < da.length := by simpa using h2
          have h3 : 0 < db.length := by simpa using h3
          have h1 : ¬ a = b := h1
          have h4 : leastR da = lastR da := h4
          simp [knownB, h1, h2, h3, h4, ofD]
        · repeat' first | refine T.seq ?_ | refine T.block ?_ | refine T.r ?_ | refine J.e rfl rfl rfl rfl ?_ | refine J.nil ?_ | refine J.skip rfl rfl rfl ?_ | refine T.skip ?_ | refine T.exit ?_ | refine T.ret ?_ | refine T.rd rfl (by kernel_rfl) ?_ | refine J.bx rfl rfl rfl rfl rfl rfl ?_
          exact ⟨_, .v rfl rfl (by simp [knownB, show ¬ a = b from h1, show ¬ leastR da = lastR da from h4]) (fun _ => rfl) .nil⟩
      · repeat' first | refine T.seq ?_ | refine T.block ?_ | refine T.r ?_ | refine J.e rfl rfl rfl rfl ?_ | refine J.nil ?_ | refine J.skip rfl rfl rfl ?_ | refine T.skip ?_ | refine T.exit ?_ | refine T.ret ?_ | refine T.rd rfl (by kernel_rfl) ?_ | refine J.bx rfl rfl rfl rfl rfl rfl ?_
        refine ⟨_, .v rfl rfl ?_ (fun _ => rfl) .nil⟩
        have h3 : ¬ 0 < db.length := by simpa using h3
        simp [knownB, show ¬ a = b from h1, h3]
    · repeat' first | refine T.seq ?_ | refine T.block ?_ | refine T.r ?_ | refine J.e rfl rfl rfl rfl ?_ | refine J.nil ?_ | refine J.skip rfl rfl rfl ?_ | refine T.skip ?_ | refine T.exit ?_ | refine T.ret ?_ | refine T.rd rfl (by kernel_rfl) ?_ | refine J.bx rfl rfl rfl rfl rfl rfl ?_
      refine ⟨_, .v rfl rfl ?_ (fun _ => rfl) .nil⟩
      have h2 : ¬ 0 < da.length := by simpa using h2
      simp [knownB, show ¬ a = b from h1, h2]

/-- The first place at which something does not hold. -/
def placeF (p : Nat → Bool) (h : Nat) : Nat := ((List.range h).find? fun k => !p k).getD h
theorem placeF_at {p : Nat → Bool} {h k : Nat} (hk : k < h) (ha : ∀ j, j < k → p j = true) (hn : p k = false) : placeF p h = k := by
  unfold placeF
  have : (List.range h).find? (fun k => !p k) = some k := by
    rw [List.find?_range_eq_some]
    exact ⟨by simp [hn], by simpa using hk, fun j hj => by simp [ha j hj]⟩
  rw [this]; rfl
theorem placeF_all {p : Nat → Bool} {h : Nat} (ha : ∀ j, j < h → p j = true) : placeF p h = h := by
  unfold placeF
  have : (List.range h).find? (fun k => !p k) = none := by
    rw [List.find?_eq_none]
    intro x hx
    simp [ha x (List.mem_range.1 hx)]
  rw [this]; rfl

def halfOf (c : Con) : Nat := c.vars.length / 2
def varAt (c : Con) (k : Nat) : Int := c.vars.getD k 0
def domAt (d : List (List (Int × Int))) (v : Int) : List (Int × Int) := d.getD v.toNat []
/-- The variables of a constraint are ones of these domains. -/
def VarsIn (d : List (List (Int × Int))) (c : Con) : Prop := c.vars.length * 8 ≤ 140737488355328 ∧ ∀ v ∈ c.vars, 0 ≤ v ∧ v.toNat < d.length
def pairO (d : List (List (Int × Int))) (c : Con) (k : Nat) : Bool := knownB (varAt c k) (varAt c (halfOf c + k)) (domAt d (varAt c k)) (domAt d (varAt c (halfOf c + k)))
def placeO (d : List (List (Int × Int))) (c : Con) : Nat := placeF (pairO d c) (halfOf c)

theorem varAt_row {c : Con} {k : Nat} (h : k < c.vars.length) : (c.vars.map cI)[((k : Nat) : Int).toNat]? = some (cI (varAt c k)) := by
  simp [varAt, h]
theorem varAt_mem {c : Con} {k : Nat} (h : k < c.vars.length) : varAt c k ∈ c.vars := by
  simp [varAt, h]
theorem domAt_some {d : List (List (Int × Int))} {v : Int} (h : v.toNat < d.length) : d[v.toNat]? = some (domAt d v) := by
  simp [domAt, h]
theorem domAt_mem {d : List (List (Int × Int))} {v : Int} (h : v.toNat < d.length) : domAt d v ∈ d := by
  simp [domAt, h]
theorem half_le (c : Con) : halfOf c + halfOf c ≤ c.vars.length := by unfold halfOf; omega

theorem place_spec (d : List (List (Int × Int))) (c : Con) (hc : VarsIn d c) (hd : ∀ x ∈ d, x.length * 8 ≤ 140737488355328) : Spec Try.prog 15 false [doms d, .agg (cC c)] [.val (.int .i64 (placeO d c))] := by
  refine Spec.body Try.func15 rfl rfl rfl fun w0 Z0 => ?_
  obtain ⟨hc1, hc2⟩ := hc
  have hh := half_le c
  repeat' first | refine T.seq ?_ | refine T.block ?_ | refine T.r ?_ | refine J.e rfl rfl rfl rfl ?_ | refine J.nil ?_ | refine J.skip rfl rfl rfl ?_ | refine T.skip ?_ | refine T.exit ?_ | refine T.ret ?_ | refine T.rd rfl (by kernel_rfl) ?_ | refine J.bx rfl rfl rfl rfl rfl rfl ?_
  have e1 : IntKind.i64.wrap (((c.vars.map cI).length : Int).tdiv 2) = (halfOf c : Int) := by
    rw [List.length_map, Int.tdiv_eq_ediv_of_nonneg (by omega), wrap_id (by omega) (by omega)]
    simp [halfOf]
  rw [e1]
  refine T.canon (keep := [0, 3, 5, 11, 12]) (os := [3]) rfl (T.ind (fun k : Nat => ⟨[(0, .val false (doms d)), (3, .optr 0 0 0 0), (5, .val true (.int .i64 (halfOf c))), (11, .val true (.int .i64 (halfOf c))), (12, .val true (.int .i64 k))], [(0, some (.box false (cC c)))], 1⟩)
    (fun k => k ≤ halfOf c ∧ ∀ j, j < k → pairO d c j = true) (fun k => halfOf c - k) 0 (by simp) (fun _ _ h => h) ?_)
  rintro k ⟨hk, hp⟩ ih
  repeat' first | refine T.seq ?_ | refine T.block ?_ | refine T.r ?_ | refine J.e rfl rfl rfl rfl ?_ | refine J.nil ?_ | refine J.skip rfl rfl rfl ?_ | refine T.skip ?_ | refine T.exit ?_ | refine T.ret ?_ | refine T.rd rfl (by kernel_rfl) ?_ | refine J.bx rfl rfl rfl rfl rfl rfl ?_
  refine T.cd rfl (fun h1 => ?_) (fun h1 => ?_)
  · have h1 : k < halfOf c := by simpa using h1
    have hv1 := hc2 _ (varAt_mem (c := c) (k := k) (by omega))
    have hv2 := hc2 _ (varAt_mem (c := c) (k := halfOf c + k) (by omega))
    repeat' first | refine T.seq ?_ | refine T.block ?_ | refine T.r ?_ | refine J.e rfl rfl rfl rfl ?_ | refine J.nil ?_ | refine J.skip rfl rfl rfl ?_ | refine T.skip ?_ | refine T.exit ?_ | refine T.ret ?_ | refine T.rd rfl (by kernel_rfl) ?_ | refine J.bx rfl rfl rfl rfl rfl rfl ?_
    refine J.i rfl rfl rfl rfl rfl rfl rfl rfl rfl (r := cI (varAt c k)) (by omega) (varAt_row (by omega)) rfl ?_
    repeat' first | refine T.seq ?_ | refine T.block ?_ | refine T.r ?_ | refine J.e rfl rfl rfl rfl ?_ | refine J.nil ?_ | refine J.skip rfl rfl rfl ?_ | refine T.skip ?_ | refine T.exit ?_ | refine T.ret ?_ | refine T.rd rfl (by kernel_rfl) ?_ | refine J.bx rfl rfl rfl rfl rfl rfl ?_
    rw [show IntKind.i64.wrap ((halfOf c : Int) + (k : Int)) = ((halfOf c + k : Nat) : Int) by rw [wrap_id (by omega) (by omega)]; omega]
    refine J.i rfl rfl rfl rfl rfl rfl rfl rfl rfl (r := cI (varAt c (halfOf c + k))) (by omega) (varAt_row (by omega)) rfl ?_
    repeat' first | refine T.seq ?_ | refine T.block ?_ | refine T.r ?_ | refine J.e rfl rfl rfl rfl ?_ | refine J.nil ?_ | refine J.skip rfl rfl rfl ?_ | refine T.skip ?_ | refine T.exit ?_ | refine T.ret ?_ | refine T.rd rfl (by kernel_rfl) ?_ | refine J.bx rfl rfl rfl rfl rfl rfl ?_
    refine J.cc rfl rfl rfl rfl rfl (known_spec d (varAt c k) (varAt c (halfOf c + k)) _ _ hv1.1 hv2.1 (domAt_some hv1.2) (domAt_some hv2.2) (hd _ (domAt_mem hv1.2)) (hd _ (domAt_mem hv2.2))) rfl rfl ?_
    repeat' first | refine T.seq ?_ | refine T.block ?_ | refine T.r ?_ | refine J.e rfl rfl rfl rfl ?_ | refine J.nil ?_ | refine J.skip rfl rfl rfl ?_ | refine T.skip ?_ | refine T.exit ?_ | refine T.ret ?_ | refine T.rd rfl (by kernel_rfl) ?_ | refine J.bx rfl rfl rfl rfl rfl rfl ?_
    refine T.cond rfl (fun h2 => ?_) (fun h2 => ?_)
    · have h2 : pairO d c k = false := by simpa [pairO] using h2
      repeat' first | refine T.seq ?_ | refine T.block ?_ | refine T.r ?_ | refine J.e rfl rfl rfl rfl ?_ | refine J.nil ?_ | refine J.skip rfl rfl rfl ?_ | refine T.skip ?_ | refine T.exit ?_ | refine T.ret ?_ | refine T.rd rfl (by kernel_rfl) ?_ | refine J.bx rfl rfl rfl rfl rfl rfl ?_
      exact ⟨_, .v rfl rfl (by rw [placeO, placeF_at h1 hp h2]) (fun _ => rfl) .nil⟩
    · have h2 : pairO d c k = true := by simpa [pairO] using h2
      repeat' first | refine T.seq ?_ | refine T.block ?_ | refine T.r ?_ | refine J.e rfl rfl rfl rfl ?_ | refine J.nil ?_ | refine J.skip rfl rfl rfl ?_ | refine T.skip ?_ | refine T.exit ?_ | refine T.ret ?_ | refine T.rd rfl (by kernel_rfl) ?_ | refine J.bx rfl rfl rfl rfl rfl rfl ?_
      rw [wrap1 (l := halfOf c) h1 (by omega)]
      refine T.canon (keep := [0, 3, 5, 11, 12]) (os := [3]) rfl (ih (k + 1) ⟨by omega, fun j hj => ?_⟩ (by omega))
      by_cases e : j = k
      · rw [e]; exact h2
      · exact hp j (by omega)
  · have h1 : ¬ k < halfOf c := by simpa using h1
    repeat' first | refine T.seq ?_ | refine T.block ?_ | refine T.r ?_ | refine J.e rfl rfl rfl rfl ?_ | refine J.nil ?_ | refine J.skip rfl rfl rfl ?_ | refine T.skip ?_ | refine T.exit ?_ | refine T.ret ?_ | refine T.rd rfl (by kernel_rfl) ?_ | refine J.bx rfl rfl rfl rfl rfl rfl ?_
    exact ⟨_, .v rfl rfl (by rw [placeO, placeF_all fun j hj => hp j (by omega)]) (fun _ => rfl) .nil⟩

def knownR (a b : Int) (da db : List (Int × Int)) : Bool := decide (a = b) || (decide ((vals da).length = 1) && decide (vals da = vals db))
def pairR (d : List (List (Int × Int))) (c : Con) (k : Nat) : Bool := knownR (varAt c k) (varAt c (halfOf c + k)) (domAt d (varAt c k)) (domAt d (varAt c (halfOf c + k)))
def placeR (d : List (List (Int × Int))) (c : Con) : Nat := placeF (pairR d c) (halfOf c)
theorem placeR_spec (d : List (List (Int × Int))) (c : Con) (hc : VarsIn d c) (hd : ∀ x ∈ d, DomB x) : Spec Try.prog 16 false [doms d, .agg (cC c)] [.val (.int .i64 (placeR d c))] := by
  refine Spec.body Try.func16 rfl rfl rfl fun w0 Z0 => ?_
  obtain ⟨hc1, hc2⟩ := hc
  have hh := half_le c
  repeat' first | refine T.seq ?_ | refine T.block ?_ | refine T.r ?_ | refine J.e rfl rfl rfl rfl ?_ | refine J.nil ?_ | refine J.skip rfl rfl rfl ?_ | refine T.skip ?_ | refine T.exit ?_ | refine T.ret ?_ | refine T.rd rfl (by kernel_rfl) ?_ | refine J.bx rfl rfl rfl rfl rfl rfl ?_
  have e1 : IntKind.i64.wrap (((c.vars.map cI).length : Int).tdiv 2) = (halfOf c : Int) := by
    rw [List.length_map, Int.tdiv_eq_ediv_of_nonneg (by omega), wrap_id (by omega) (by omega)]
    simp [halfOf]
  rw [e1]
  refine T.canon (keep := [0, 3, 5, 6]) (os := [3]) rfl (T.ind (fun k : Nat => ⟨[(0, .val false (doms d)), (3, .optr 0 0 0 0), (5, .val true (.int .i64 (halfOf c))), (6, .val true (.int .i64 k))], [(0, some (.box false (cC c)))], 1⟩)
    (fun k => k ≤ halfOf c ∧ ∀ j, j < k → pairR d c j = true) (fun k => halfOf c - k) 0 (by simp) (fun _ _ h => h) ?_)
  rintro k ⟨hk, hp⟩ ih
  repeat' first | refine T.seq ?_ | refine T.block ?_ | refine T.r ?_ | refine J.e rfl rfl rfl rfl ?_ | refine J.nil ?_ | refine J.skip rfl rfl rfl ?_ | refine T.skip ?_ | refine T.exit ?_ | refine T.ret ?_ | refine T.rd rfl (by kernel_rfl) ?_ | refine J.bx rfl rfl rfl rfl rfl rfl ?_
  refine T.cd rfl (fun h1 => ?_) (fun h1 => ?_)
  · have h1 : k < halfOf c := by simpa using h1
    have hv1 := hc2 _ (varAt_mem (c := c) (k := k) (by omega))
    have hv2 := hc2 _ (varAt_mem (c := c) (k := halfOf c + k) (by omega))
    obtain ⟨ha1, ha2, ha3⟩ := hd _ (domAt_mem hv1.2)
    obtain ⟨hb1, hb2, hb3⟩ := hd _ (domAt_mem hv2.2)
    have hpk : pairR d c k = knownR (varAt c k) (varAt c (halfOf c + k)) (domAt d (varAt c k)) (domAt d (varAt c (halfOf c + k))) := rfl
    have ra : (d.map cD)[(varAt c k).toNat]? = some (cD (domAt d (varAt c k))) := by simp [domAt_some hv1.2]
    have rb : (d.map cD)[(varAt c (halfOf c + k)).toNat]? = some (cD (domAt d (varAt c (halfOf c + k)))) := by simp [domAt_some hv2.2]
    repeat' first | refine T.seq ?_ | refine T.block ?_ | refine T.r ?_ | refine J.e rfl rfl rfl rfl ?_ | refine J.nil ?_ | refine J.skip rfl rfl rfl ?_ | refine T.skip ?_ | refine T.exit ?_ | refine T.ret ?_ | refine T.rd rfl (by kernel_rfl) ?_ | refine J.bx rfl rfl rfl rfl rfl rfl ?_
    refine J.i rfl rfl rfl rfl rfl rfl rfl rfl rfl (r := cI (varAt c k)) (by omega) (varAt_row (by omega)) rfl ?_
    repeat' first | refine T.seq ?_ | refine T.block ?_ | refine T.r ?_ | refine J.e rfl rfl rfl rfl ?_ | refine J.nil ?_ | refine J.skip rfl rfl rfl ?_ | refine T.skip ?_ | refine T.exit ?_ | refine T.ret ?_ | refine T.rd rfl (by kernel_rfl) ?_ | refine J.bx rfl rfl rfl rfl rfl rfl ?_
    rw [show IntKind.i64.wrap ((halfOf c : Int) + (k : Int)) = ((halfOf c + k : Nat) : Int) by rw [wrap_id (by omega) (by omega)]; omega]
    refine J.i rfl rfl rfl rfl rfl rfl rfl rfl rfl (r := cI (varAt c (halfOf c + k))) (by omega) (varAt_row (by omega)) rfl ?_
    repeat' first | refine T.seq ?_ | refine T.block ?_ | refine T.r ?_ | refine J.e rfl rfl rfl rfl ?_ | refine J.nil ?_ | refine J.skip rfl rfl rfl ?_ | refine T.skip ?_ | refine T.exit ?_ | refine T.ret ?_ | refine T.rd rfl (by kernel_rfl) ?_ | refine J.bx rfl rfl rfl rfl rfl rfl ?_
    refine J.i rfl rfl rfl rfl rfl rfl rfl rfl rfl (r := cD (domAt d (varAt c k))) hv1.1 ra rfl ?_
    repeat' first | refine T.seq ?_ | refine T.block ?_ | refine T.r ?_ | refine J.e rfl rfl rfl rfl ?_ | refine J.nil ?_ | refine J.skip rfl rfl rfl ?_ | refine T.skip ?_ | refine T.exit ?_ | refine T.ret ?_ | refine T.rd rfl (by kernel_rfl) ?_ | refine J.bx rfl rfl rfl rfl rfl rfl ?_
    refine J.cc rfl rfl rfl rfl rfl (values_spec (domAt d (varAt c k)) ha1 (by omega) ha3).frz rfl rfl ?_
    repeat' first | refine T.seq ?_ | refine T.block ?_ | refine T.r ?_ | refine J.e rfl rfl rfl rfl ?_ | refine J.nil ?_ | refine J.skip rfl rfl rfl ?_ | refine T.skip ?_ | refine T.exit ?_ | refine T.ret ?_ | refine T.rd rfl (by kernel_rfl) ?_ | refine J.bx rfl rfl rfl rfl rfl rfl ?_
    refine J.i rfl rfl rfl rfl rfl rfl rfl rfl rfl (r := cD (domAt d (varAt c (halfOf c + k)))) hv2.1 rb rfl ?_
    repeat' first | refine T.seq ?_ | refine T.block ?_ | refine T.r ?_ | refine J.e rfl rfl rfl rfl ?_ | refine J.nil ?_ | refine J.skip rfl rfl rfl ?_ | refine T.skip ?_ | refine T.exit ?_ | refine T.ret ?_ | refine T.rd rfl (by kernel_rfl) ?_ | refine J.bx rfl rfl rfl rfl rfl rfl ?_
    refine J.cc rfl rfl rfl rfl rfl (values_spec (domAt d (varAt c (halfOf c + k))) hb1 (by omega) hb3).frz rfl rfl ?_
    repeat' first | refine T.seq ?_ | refine T.block ?_ | refine T.r ?_ | refine J.e rfl rfl rfl rfl ?_ | refine J.nil ?_ | refine J.skip rfl rfl rfl ?_ | refine T.skip ?_ | refine T.exit ?_ | refine T.ret ?_ | refine T.rd rfl (by kernel_rfl) ?_ | refine J.bx rfl rfl rfl rfl rfl rfl ?_
    unfold knownR at hpk
    generalize vals (domAt d (varAt c k)) = x at *
    generalize vals (domAt d (varAt c (halfOf c + k))) = y at *
    refine J.g rfl rfl rfl (fun h2 => ?_) (fun h2 => ?_)
    · have h2 : ¬ varAt c k = varAt c (halfOf c + k) := h2
      repeat' first | refine T.seq ?_ | refine T.block ?_ | refine T.r ?_ | refine J.e rfl rfl rfl rfl ?_ | refine J.nil ?_ | refine J.skip rfl rfl rfl ?_ | refine T.skip ?_ | refine T.exit ?_ | refine T.ret ?_ | refine T.rd rfl (by kernel_rfl) ?_ | refine J.bx rfl rfl rfl rfl rfl rfl ?_
      refine J.g rfl rfl rfl (fun h3 => ?_) (fun h3 => ?_)
      · have h3 : x.length = 1 := by simp only [List.length_map] at h3; omega
        repeat' first | refine T.seq ?_ | refine T.block ?_ | refine T.r ?_ | refine J.e rfl rfl rfl rfl ?_ | refine J.nil ?_ | refine J.skip rfl rfl rfl ?_ | refine T.skip ?_ | refine T.exit ?_ | refine T.ret ?_ | refine T.rd rfl (by kernel_rfl) ?_ | refine J.bx rfl rfl rfl rfl rfl rfl ?_
        refine J.cc rfl rfl rfl rfl rfl (nums_spec x y (by omega)) rfl rfl ?_
        repeat' first | refine T.seq ?_ | refine T.block ?_ | refine T.r ?_ | refine J.e rfl rfl rfl rfl ?_ | refine J.nil ?_ | refine J.skip rfl rfl rfl ?_ | refine T.skip ?_ | refine T.exit ?_ | refine T.ret ?_ | refine T.rd rfl (by kernel_rfl) ?_ | refine J.bx rfl rfl rfl rfl rfl rfl ?_
        refine T.cond rfl (fun h4 => ?_) (fun h4 => ?_)
        · have hpf : pairR d c k = false := by rw [hpk]; simp [h2, h3]; simpa using h4
          repeat' first | refine T.seq ?_ | refine T.block ?_ | refine T.r ?_ | refine J.e rfl rfl rfl rfl ?_ | refine J.nil ?_ | refine J.skip rfl rfl rfl ?_ | refine T.skip ?_ | refine T.exit ?_ | refine T.ret ?_ | refine T.rd rfl (by kernel_rfl) ?_ | refine J.bx rfl rfl rfl rfl rfl rfl ?_
          exact ⟨_, .v rfl rfl (by rw [placeR, placeF_at h1 hp hpf]) (fun _ => rfl) .nil⟩
        · have hpt : pairR d c k = true := by rw [hpk]; simp [h2, h3]; simpa using h4
          repeat' first | refine T.seq ?_ | refine T.block ?_ | refine T.r ?_ | refine J.e rfl rfl rfl rfl ?_ | refine J.nil ?_ | refine J.skip rfl rfl rfl ?_ | refine T.skip ?_ | refine T.exit ?_ | refine T.ret ?_ | refine T.rd rfl (by kernel_rfl) ?_ | refine J.bx rfl rfl rfl rfl rfl rfl ?_
          rw [wrap1 (l := halfOf c) h1 (by omega)]
          refine T.canon (keep := [0, 3, 5, 6]) (os := [3]) rfl (ih (k + 1) ⟨by omega, fun j hj => ?_⟩ (by omega))
          by_cases e : j = k
          · rw [e]; exact hpt
          · exact hp j (by omega)
      · have h3 : ¬ x.length = 1 := by simp only [List.length_map] at h3; omega
        repeat' first | refine T.seq ?_ | refine T.block ?_ | refine T.r ?_ | refine J.e rfl rfl rfl rfl ?_ | refine J.nil ?_ | refine J.skip rfl rfl rfl ?_ | refine T.skip ?_ | refine T.exit ?_ | refine T.ret ?_ | refine T.rd rfl (by kernel_rfl) ?_ | refine J.bx rfl rfl rfl rfl rfl rfl ?_
        refine T.ct rfl ?_
        have hpf : pairR d c k = false := by rw [hpk]; simp [h2, h3]
        repeat' first | refine T.seq ?_ | refine T.block ?_ | refine T.r ?_ | refine J.e rfl rfl rfl rfl ?_ | refine J.nil ?_ | refine J.skip rfl rfl rfl ?_ | refine T.skip ?_ | refine T.exit ?_ | refine T.ret ?_ | refine T.rd rfl (by kernel_rfl) ?_ | refine J.bx rfl rfl rfl rfl rfl rfl ?_
        exact ⟨_, .v rfl rfl (by rw [placeR, placeF_at h1 hp hpf]) (fun _ => rfl) .nil⟩
    · have h2 : varAt c k = varAt c (halfOf c + k) := Classical.not_not.1 h2
      have hpt : pairR d c k = true := by rw [hpk]; simp [h2]
      repeat' first | refine T.seq ?_ | refine T.block ?_ | refine T.r ?_ | refine J.e rfl rfl rfl rfl ?_ | refine J.nil ?_ | refine J.skip rfl rfl rfl ?_ | refine T.skip ?_ | refine T.exit ?_ | refine T.ret ?_ | refine T.rd rfl (by kernel_rfl) ?_ | refine J.bx rfl rfl rfl rfl rfl rfl ?_
      refine T.cf rfl ?_
      repeat' first | refine T.seq ?_ | refine T.block ?_ | refine T.r ?_ | refine J.e rfl rfl rfl rfl ?_ | refine J.nil ?_ | refine J.skip rfl rfl rfl ?_ | refine T.skip ?_ | refine T.exit ?_ | refine T.ret ?_ | refine T.rd rfl (by kernel_rfl) ?_ | refine J.bx rfl rfl rfl rfl rfl rfl ?_
      rw [wrap1 (l := halfOf c) h1 (by omega)]
      refine T.canon (keep := [0, 3, 5, 6]) (os := [3]) rfl (ih (k + 1) ⟨by omega, fun j hj => ?_⟩ (by omega))
      by_cases e : j = k
      · rw [e]; exact hpt
      · exact hp j (by omega)
  · have h1 : ¬ k < halfOf c := by simpa using h1
    repeat' first | refine T.seq ?_ | refine T.block ?_ | refine T.r ?_ | refine J.e rfl rfl rfl rfl ?_ | refine J.nil ?_ | refine J.skip rfl rfl rfl ?_ | refine T.skip ?_ | refine T.exit ?_ | refine T.ret ?_ | refine T.rd rfl (by kernel_rfl) ?_ | refine J.bx rfl rfl rfl rfl rfl rfl ?_
    exact ⟨_, .v rfl rfl (by rw [placeR, placeF_all fun j hj => hp j (by omega)]) (fun _ => rfl) .nil⟩
end Go.Proofs.Ytgkblgddpldpeaa
