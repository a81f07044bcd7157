/-
  Values, objects and what they say of a world.
-/
import Derived.RangeFuncRecord
import Derived.RangeFuncCalls
import Derived.Below
import Derived.Laws.AppendOwn
import Derived.Laws.BitsAllLaws
import Derived.IntWalk
import Derived.Laws.Slices
/-
  AW, part 1: abstract values, abstract objects, and what they say of the model's world.
-/
namespace Go.AW
open Go Go.RowKit
set_option linter.unusedVariables false
set_option linter.unusedSimpArgs false

/-- Abstract values. -/
inductive AV where
  | any
  | sc (v : Value)
  | agg (cs : List AV)
  | tup (vs : List AV)
  | sl (clip : Bool) (xs : List AV)
  | acc (g n : Nat)
  | ref (i off : Nat)
  | ep (s : AV) (sz i off : Nat)
  | mp (i : Nat)
  | fn (f k : Nat) (caps : List AV)
  | yl (i : Nat)
  | av (g N sz lo n : Nat)
  deriving Inhabited

abbrev Env := List (Nat × AV)
def Env.get : Env → Nat → AV
  | [], _ => .any
  | (k, v) :: r, i => if i = k then v else Env.get r i

/-- Keys' kinds: of one cell (0 int, 1 string, 2 bool), or of more. -/
inductive KS where
  | one (t : Nat)
  | agg (ts : List Nat)
  deriving Inhabited

/-- Operations, as they are read. -/
inductive AOp where
  | mov (x : Operand)
  | pick (c a b : Operand)
  | build (zs : List AV) (parts : List (Nat × Nat × Operand))
  | load (agg : Bool) (n : Nat) (x : Operand)
  | nilck (x : Operand)
  | bin (op : BinOp) (td : TypeDesc) (x y : Operand)
  | un (op : UnOp) (x : Operand)
  | cvi (k : IntKind) (x : Operand)
  | mkfn (f : Nat) (first caps : List Operand)
  | faddr (off : Nat) (x : Operand)
  | fld (agg : Bool) (off n : Nat) (x : Operand)
  | iaddr (sz : Nat) (x i : Operand)
  | iaddrA (len sz : Nat) (x i : Operand)
  | idxS (x i : Operand)
  | slc (sz : Nat) (x : Operand) (lo hi mx : Option Operand)
  | slcS (x : Operand) (lo hi : Option Operand)
  | ext (x : Operand) (i : Nat)
  | len (str : Bool) (x : Operand)
  | alloc (zs : List AV)
  | box (x : Operand)
  | mksl (e sz : Nat) (parts : List Operand)
  | store (n : Nat) (x v : Operand)
  | call (f : Operand) (args : List Operand)
  | app (e sz bytes : Nat) (x y : Operand)
  | appz (e sz bytes : Nat) (z : AV) (x n : Operand)
  | mm (mx : Bool) (xs : List Operand)
  | isnil (neg : Bool) (x : Operand)
  | cap (x : Operand)
  | lenM (x : Operand)
  | lookup (tag : KS) (z : AV) (x k : Operand) (ok : Bool)
  | mkmap (t : TypeId)
  | mupd (tag : KS) (x k v : Operand)
  | mentry (tag : KS) (z : Value) (x k : Operand)
  | estore (x s v : Operand)
  | mdel (tag : KS) (x k : Operand)
  | range (x : Operand)
  | next (x : Operand)
  | entry (x : Operand)
  | clear (e sz : Nat) (z : AV) (x : Operand)
  | raw (o : Oper)
  deriving Inhabited

structure AI where
  dst : Option Nat
  g : Option (Nat × Bool)
  op : AOp
  deriving Inhabited

structure DI where
  i : AI
  k : Nat
  back : Nat
  fwd : Nat
  deriving Inhabited

/-- Code, as it is read. -/
inductive AC where
  | skip | ret
  | exit (id : Nat)
  | seq (a b : AC)
  | cond (x : Operand) (a b : AC)
  | block (id : Nat) (b : AC)
  | loop (b : AC)
  | reg (ops : List AI)
  | draw (ops : List DI)
  | rangeF (f : Operand) (ps : List Nat) (asg body : Code) (A B : AC)
  | raw (c : Code)
  deriving Inhabited

/-- Abstract objects. -/
inductive AO where
  | dead
  | cells (cs : List AV)
  | acc (e sz : Nat) (xs : List AV)
  | map (clk : Nat) (ents : List MapEntry)
  | iter (m since : Nat) (seen : List Nat) (last : Nat)
  | dfr
  | loop (N : Nat) (en : Env) (ps : List Nat) (asg body : Code) (A B : AC) (ls : LoopState) (pend : Option Code)
  deriving Inhabited

/-- The cells that a value fills. -/
def AV.cells : AV → List AV
  | .agg cs => cs
  | x => [x]

/-- May it lie in a slice that is never written again? (its slices lie there already) -/
def AV.flatOk : AV → Bool
  | .sc _ | .sl _ _ => true
  | _ => false
def AV.pure1 : AV → Bool
  | .agg cs => cs.all AV.flatOk
  | x => x.flatOk

def flat (xs : List AV) : List AV := xs.flatMap AV.cells

/-- Values that name no memory. -/
def plainV : Value → Bool
  | .bool _ => true
  | .int k n => decide (k.min ≤ n) && decide (n ≤ k.max)
  | .string s => decide (s.size ≤ 140737488355328)
  | .pointer none | .map none | .nilFunc | .nilIface => true
  | _ => false

/-- A row of a slice under construction: it has room, and its block is its own. -/
def Row (w : World) (e sz : Nat) (v : Value) (n : Nat) (vals : List Value) : Prop :=
  vals.length = n * sz ∧ ∃ g cap cur, v = Value.slice (some ⟨g, 0, none⟩) n cap ∧ cap ≠ 0 ∧ w.heap[g]? = some (.cells cur e (0, 0)) ∧ n ≤ cap ∧ cap ≤ maxLen ∧ cur.size = cap * sz ∧ cur.toList.take (n * sz) = vals

structure Cx where
  w : World
  ρ : List Value
  D : Nat → Nat → Prop
  st : List AO

/-- What an abstract value says of a value. -/
inductive VR (c : Cx) : AV → Value → Prop
  | any {v : Value} : VR c .any v
  | sc {v : Value} (h : plainV v = true) : VR c (.sc v) v
  | agg {cs : List AV} {vs : Array Value} (hl : cs.length = vs.size) (h1 : ∀ v ∈ vs, v.oneCell' = true)
      (h : ∀ (i : Nat) x v, cs[i]? = some x → vs[i]? = some v → VR c x v) : VR c (.agg cs) (.agg vs)
  | tup {cs : List AV} {vs : Array Value} (hl : cs.length = vs.size)
      (h : ∀ (i : Nat) x v, cs[i]? = some x → vs[i]? = some v → VR c x v) : VR c (.tup cs) (.tuple vs)
  | sl {clip : Bool} {xs : List AV} {a : Option Addr} {n cp : Nat} (sz : Nat) (vals : Nat → Value)
      (hn : n = xs.length) (hc : n ≤ cp) (hcl : clip = true → cp = n) (hm : cp ≤ maxLen) (hb : n ≤ 140737488355328)
      (ha : a = none → cp = 0) (hsp : ∀ ad, a = some ad → 0 < n → ad.spot = none) (hp : ∀ x ∈ xs, x.pure1 = true) (hsz : ∀ x ∈ xs, x.cells.length = sz)
      (hcell : ∀ ad (j : Nat) x, a = some ad → (flat xs)[j]? = some x → ad.spot = none ∧ c.D ad.block (ad.off + j) ∧ c.w.cell? ⟨ad.block, ad.off + j, none⟩ = some (vals j))
      (h1 : ∀ (j : Nat) x, (flat xs)[j]? = some x → (vals j).oneCell' = true)
      (hv : ∀ (j : Nat) x, (flat xs)[j]? = some x → VR c x (vals j)) : VR c (.sl clip xs) (.slice a n cp)
  | acc {g n cp : Nat} {a : Option Addr} (hg : g < c.ρ.length) (ha : (a = none → n = 0) ∧ ∀ ad, a = some ad → 0 < n → ad.spot = none) (hm : n ≤ 140737488355328) (hc : n ≤ cp ∧ cp ≤ maxLen) (h : ∀ e sz xs, c.st[g]? = some (.acc e sz xs) → n ≤ xs.length ∧ (xs.length = n → c.ρ[g]? = some (.slice a n cp))) :
      VR c (.acc g n) (.slice a n cp)
  | ref {i off b : Nat} (h : c.ρ[i]? = some (.pointer (some ⟨b, 0, none⟩))) : VR c (.ref i off) (.pointer (some ⟨b, off, none⟩))
  | ep {s : AV} {sz i off n cp : Nat} {ad : Addr} (hs : VR c s (.slice (some ad) n cp)) (hi : i < n) : VR c (.ep s sz i off) (.pointer (some ⟨ad.block, ad.off + (i * sz + off), none⟩))
  | mp {i b : Nat} (h : c.ρ[i]? = some (.map (some b))) : VR c (.mp i) (.map (some b))
  | fn {f k : Nat} {caps : List AV} {us vs : Array Value} (hk : us.size = k) (hl : caps.length = (us ++ vs).size)
      (h : ∀ (i : Nat) x v, caps[i]? = some x → (us ++ vs)[i]? = some v → VR c x v) : VR c (.fn f k caps) (.func (.func f) us vs)
  | av {g N sz lo n : Nat} {v : Value} (hg : g < c.ρ.length) (hm : n ≤ 140737488355328)
      (hs : ∃ a cp, v = .slice a n cp ∧ n ≤ cp ∧ cp ≤ maxLen ∧ (a = none → cp = 0) ∧ (∀ ad, a = some ad → 0 < cp → ad.spot = none))
      (h : ∀ e xs, c.st[g]? = some (.acc e sz xs) → lo + n ≤ N ∧ N ≤ xs.length ∧ (xs.length = N → ∃ b cp, c.ρ[g]? = some (.slice b N cp) ∧ ∃ a, v = .slice a n (cp - lo) ∧ (0 < cp - lo → ∃ ad, b = some ad ∧ a = some ⟨ad.block, ad.off + lo * sz, ad.spot⟩))) : VR c (.av g N sz lo n) v
  | yl {i b : Nat} (h : c.ρ[i]? = some (.func (.yield b) #[] #[])) : VR c (.yl i) (.func (.yield b) #[] #[])

def hblk : Value → Option Nat
  | .pointer (some a) => some a.block
  | .slice (some a) _ _ => some a.block
  | .map r => r
  | .func (.yield b) _ _ => some b
  | .chan r => r
  | _ => none

/-- The deferred calls' block's handle. -/
def dfrH (b : Nat) : Value := .chan (some b)

/-- What an abstract object says of the world. -/
def OR (c : Cx) (i : Nat) : AO → Prop
  | .dead => True
  | .cells cs => ∃ b e, ∃ vs : Array Value, c.ρ[i]? = some (.pointer (some ⟨b, 0, none⟩)) ∧ c.w.heap[b]? = some (.cells vs e (0, 0)) ∧ vs.size = cs.length ∧
      (∀ v ∈ vs, v.oneCell' = true) ∧ ∀ (j : Nat) x v, cs[j]? = some x → vs[j]? = some v → VR c x v
  | .acc e sz xs => (0 < sz ∧ xs.length ≤ 140737488355328) ∧ (∀ x ∈ xs, x.pure1 = true) ∧ (∀ x ∈ xs, x.cells.length = sz) ∧
      ∃ v, ∃ vals : List Value, c.ρ[i]? = some v ∧ ((∃ a, v = Value.slice a 0 0 ∧ xs = [] ∧ vals = []) ∨ Row c.w e sz v xs.length vals) ∧ vals.length = (flat xs).length ∧
      (∀ u ∈ vals, u.oneCell' = true) ∧ ∀ (j : Nat) x u, (flat xs)[j]? = some x → vals[j]? = some u → VR c x u
  | .map clk ents => ∃ b, c.ρ[i]? = some (.map (some b)) ∧ c.w.heap[b]? = some (.map ents.toArray clk) ∧ ents.length ≤ 140737488355328 ∧ clk ≤ 140737488355328 ∧ ∀ e ∈ ents, e.born < clk
  | .iter m since seen last => m < c.ρ.length ∧ ∃ b bm, c.ρ[i]? = some (.pointer (some ⟨b, 0, none⟩)) ∧ c.ρ[m]? = some (.map (some bm)) ∧ c.w.heap[b]? = some (.mapIter (some bm) since seen.toArray last)
  | .dfr => ∃ b, c.ρ[i]? = some (dfrH b) ∧ c.w.heap[b]? = some (.deferred (some []))
  | .loop N en ps asg body _ _ ls pend => ∃ b r, c.ρ[i]? = some (.func (.yield b) #[] #[]) ∧ c.w.heap[b]? = some (.loop r) ∧ r.state = ls ∧ r.pending = pend ∧ r.params.toList = ps ∧ r.assign = asg ∧ r.body = body ∧
      r.tmps.size = N ∧ ∀ t, en.get t = .any ∨ (t < N ∧ VR c (en.get t) (r.tmps.getD t undef))

def AO.alive : AO → Bool
  | .dead => false
  | _ => true

/-- Which block an object that lives owns. -/
def Owns (c : Cx) (i b : Nat) : Prop := ∃ o v, c.st[i]? = some o ∧ o.alive = true ∧ c.ρ[i]? = some v ∧ hblk v = some b ∧ (∀ e sz xs, o = AO.acc e sz xs → ∀ a n cp, v = Value.slice a n cp → cp ≠ 0)

structure WR (c : Cx) : Prop where
  len : c.ρ.length = c.st.length
  obj : ∀ (i : Nat) o, c.st[i]? = some o → OR c i o
  lt : ∀ i b, Owns c i b → b < c.w.heap.size
  sep : ∀ i j b, Owns c i b → Owns c j b → i = j
  dis : ∀ i b off, Owns c i b → ¬ c.D b off
  cell : ∀ b off, c.D b off → ∃ v, c.w.cell? ⟨b, off, none⟩ = some v

/-- How the world goes on. -/
structure Ext (c c' : Cx) : Prop where
  os : c'.w.os = c.w.os
  tape : c'.w.tape = c.w.tape
  output : c'.w.output = c.w.output
  size : c.w.heap.size ≤ c'.w.heap.size
  dmono : ∀ b off, c.D b off → c'.D b off
  dsame : ∀ b off, c.D b off → c'.w.cell? ⟨b, off, none⟩ = c.w.cell? ⟨b, off, none⟩
  ρlen : c.ρ.length ≤ c'.ρ.length
  ρsame : ∀ (i : Nat) v, c.ρ[i]? = some v → c'.ρ[i]? = some v ∨ (∃ a n cp a' n' cp', v = Value.slice a n cp ∧ c'.ρ[i]? = some (Value.slice a' n' cp'))
  acc : ∀ (g : Nat) e sz xs', g < c.ρ.length → c'.st[g]? = some (AO.acc e sz xs') →
    ∃ xs, c.st[g]? = some (AO.acc e sz xs) ∧ xs.length ≤ xs'.length ∧ (xs.length = xs'.length → c'.ρ[g]? = c.ρ[g]?)
  frame : ∀ b, b < c.w.heap.size → (∀ i, ¬ Owns c i b) → c'.w.heap[b]? = c.w.heap[b]?
  own : ∀ i b, Owns c' i b → b < c.w.heap.size → ∃ j, Owns c j b
  dnew : ∀ b off, c'.D b off → b < c.w.heap.size → c.D b off ∨ ∃ i, Owns c i b

theorem Ext.refl (c : Cx) : Ext c c where
  os := rfl
  tape := rfl
  output := rfl
  size := Nat.le_refl _
  dmono := fun _ _ h => h
  dsame := fun _ _ _ => rfl
  ρlen := Nat.le_refl _
  ρsame := fun _ _ h => .inl h
  acc := fun _ e sz xs _ h => ⟨xs, h, Nat.le_refl _, fun _ => rfl⟩
  frame := fun _ _ _ => rfl
  own := fun i _ h _ => ⟨i, h⟩
  dnew := fun _ _ h _ => .inl h

theorem Ext.trans {a b c : Cx} (h : Ext a b) (k : Ext b c) : Ext a c where
  os := k.os.trans h.os
  tape := k.tape.trans h.tape
  output := k.output.trans h.output
  size := Nat.le_trans h.size k.size
  dmono := fun _ _ hd => k.dmono _ _ (h.dmono _ _ hd)
  dsame := fun _ _ hd => (k.dsame _ _ (h.dmono _ _ hd)).trans (h.dsame _ _ hd)
  ρlen := Nat.le_trans h.ρlen k.ρlen
  ρsame := fun i v hv => by
    rcases h.ρsame i v hv with h1 | ⟨a1, n1, c1, a2, n2, c2, rfl, h1⟩
    · rcases k.ρsame i v h1 with h2 | ⟨a1, n1, c1, a2, n2, c2, rfl, h2⟩
      · exact .inl h2
      · exact .inr ⟨a1, n1, c1, a2, n2, c2, rfl, h2⟩
    · rcases k.ρsame i _ h1 with h2 | ⟨a3, n3, c3, a4, n4, c4, _, h2⟩
      · exact .inr ⟨a1, n1, c1, a2, n2, c2, rfl, h2⟩
      · exact .inr ⟨a1, n1, c1, a4, n4, c4, rfl, h2⟩
  acc := fun g e sz xs' hg hx => by
    obtain ⟨xs1, h1, l1, r1⟩ := k.acc g e sz xs' (Nat.lt_of_lt_of_le hg h.ρlen) hx
    obtain ⟨xs2, h2, l2, r2⟩ := h.acc g e sz xs1 hg h1
    exact ⟨xs2, h2, Nat.le_trans l2 l1, fun he => (r1 (by omega)).trans (r2 (by omega))⟩
  frame := fun b hb hn => by
    have h1 := h.frame b hb hn
    exact (k.frame b (Nat.lt_of_lt_of_le hb h.size) (fun i hi => by obtain ⟨j, hj⟩ := h.own i b hi hb; exact hn j hj)).trans h1
  own := fun i b hi hb => by
    obtain ⟨j, hj⟩ := k.own i b hi (Nat.lt_of_lt_of_le hb h.size)
    exact h.own j b hj hb
  dnew := fun b off hd hb => by
    rcases k.dnew b off hd (Nat.lt_of_lt_of_le hb h.size) with h1 | ⟨j, hj⟩
    · exact h.dnew b off h1 hb
    · exact .inr (h.own j b hj hb)

/-- What is said of a value stays true. -/
theorem VR.mono {c c' : Cx} (h : Ext c c') {x : AV} {v : Value} (hv : VR c x v) : VR c' x v := by
  induction hv with
  | any => exact .any
  | sc hp => exact .sc hp
  | agg hl h1 _ ih => exact .agg hl h1 ih
  | tup hl _ ih => exact .tup hl ih
  | sl sz vals hn hc hcl hm hb ha hsp hp hsz hcell h1 _ ih =>
    exact .sl sz vals hn hc hcl hm hb ha hsp hp hsz (fun ad j x hs hx => ⟨(hcell ad j x hs hx).1, h.dmono _ _ (hcell ad j x hs hx).2.1, (h.dsame _ _ (hcell ad j x hs hx).2.1).trans (hcell ad j x hs hx).2.2⟩) h1 ih
  | acc hg ha hm hc hh =>
    refine .acc (Nat.lt_of_lt_of_le hg h.ρlen) ha hm hc (fun e sz xs' hx => ?_)
    obtain ⟨xs, h0, hl, hr⟩ := h.acc _ e sz xs' hg hx
    obtain ⟨h1, h2⟩ := hh e sz xs h0
    exact ⟨Nat.le_trans h1 hl, fun he => (hr (by omega)).trans (h2 (by omega))⟩
  | ref hh =>
    rcases h.ρsame _ _ hh with h1 | ⟨_, _, _, _, _, _, h1, _⟩
    · exact .ref h1
    · cases h1
  | ep _ hi ih => exact .ep ih hi
  | mp hh =>
    rcases h.ρsame _ _ hh with h1 | ⟨_, _, _, _, _, _, h1, _⟩
    · exact .mp h1
    · cases h1
  | fn hk hl _ ih => exact .fn hk hl ih
  | av hg hm hs hh =>
    refine .av (Nat.lt_of_lt_of_le hg h.ρlen) hm hs (fun e xs' hx => ?_)
    obtain ⟨xs, h0, hl, hr⟩ := h.acc _ e _ xs' hg hx
    obtain ⟨h1, h2, h3⟩ := hh e xs h0
    exact ⟨h1, Nat.le_trans h2 hl, fun he => by rw [hr (by omega)]; exact h3 (by omega)⟩
  | yl hh =>
    rcases h.ρsame _ _ hh with h1 | ⟨_, _, _, _, _, _, h1, _⟩
    · exact .yl h1
    · cases h1

/-- What is pure hangs on the cells that are never written again alone. -/
theorem VR.pureMono {c c' : Cx} (hd : ∀ b off, c.D b off → c'.D b off) (hs : ∀ b off, c.D b off → c'.w.cell? ⟨b, off, none⟩ = c.w.cell? ⟨b, off, none⟩)
    {x : AV} {v : Value} (hv : VR c x v) (hp : x.pure1 = true) : VR c' x v := by
  induction hv with
  | any => simp [AV.pure1, AV.flatOk] at hp
  | sc h => exact .sc h
  | @agg cs vs hl h1 h ih =>
    refine .agg hl h1 (fun i x v hx hvv => ih i x v hx hvv ?_)
    simp only [AV.pure1, List.all_eq_true] at hp
    have := hp x (List.mem_of_getElem? hx)
    cases x <;> simp_all [AV.flatOk, AV.pure1]
  | tup => simp [AV.pure1, AV.flatOk] at hp
  | @sl clip xs a n cp sz vals hn hc hcl hm hb ha hsp hpp hsz hcell h1 _ ih =>
    refine .sl sz vals hn hc hcl hm hb ha hsp hpp hsz (fun ad j x hss hx => ⟨(hcell ad j x hss hx).1, hd _ _ (hcell ad j x hss hx).2.1, (hs _ _ (hcell ad j x hss hx).2.1).trans (hcell ad j x hss hx).2.2⟩) h1
      (fun j x hx => ih j x hx ?_)
    obtain ⟨y, hy, hxy⟩ := List.mem_flatMap.1 (List.mem_of_getElem? hx)
    have hy' := hpp y hy
    cases y <;> simp_all [AV.cells, AV.pure1, AV.flatOk]
    have := hy' x hxy
    cases x <;> simp_all [AV.flatOk, AV.pure1]
  | acc => simp [AV.pure1, AV.flatOk] at hp
  | ref => simp [AV.pure1, AV.flatOk] at hp
  | ep => simp [AV.pure1, AV.flatOk] at hp
  | mp => simp [AV.pure1, AV.flatOk] at hp
  | fn => simp [AV.pure1, AV.flatOk] at hp
  | yl => simp [AV.pure1, AV.flatOk] at hp
  | av => simp [AV.pure1, AV.flatOk] at hp

end Go.AW

/-
  AW, part 2: code: the predicate and its rules for the structure of code.
-/
namespace Go.AW
open Go Go.RowKit
set_option linter.unusedVariables false
set_option linter.unusedSimpArgs false

inductive AX where
  | normal | exit (id : Nat) | ret
def AX.ex : AX → Exit
  | .normal => .normal
  | .exit id => .exit id
  | .ret => .ret

/-- The temporaries hold what the environment says. -/
def ER (c : Cx) (en : Env) (N : Nat) (tmps : Array Value) : Prop :=
  tmps.size = N ∧ ∀ i, en.get i = .any ∨ (i < N ∧ VR c (en.get i) (tmps.getD i undef))

/-- The marks among the deferred calls. -/
def MR (ρ : List Value) (mk : List Nat) (ds : List Deferred) : Prop :=
  ds.length = mk.length ∧ ∀ (j : Nat) i d, mk[j]? = some i → ds[j]? = some d → ∃ b, ρ[i]? = some (dfrH b) ∧ d = { target := .collected b, args := #[] }

/-- Which fence: outside of all rounds, or in a round of an abstract loop. -/
def FR (ρ : List Value) (rd : Option Nat) (F : Fence) : Prop :=
  (rd = none ∧ F = Fence.wide) ∨ ∃ i b, rd = some i ∧ ρ[i]? = some (.func (.yield b) #[] #[]) ∧ F = Fence.wide.inRound b

abbrev AQ := AX → Env → List Nat → List AO → Prop

def APost (N : Nat) (c0 : Cx) (Q : AQ) : Exit → Act → World → Prop := fun e a' w' =>
  ∃ x en' mk' st' ρ' D', e = AX.ex x ∧ WR ⟨w', ρ', D', st'⟩ ∧ ER ⟨w', ρ', D', st'⟩ en' N a'.tmps ∧ MR ρ' mk' a'.defers ∧ Ext c0 ⟨w', ρ', D', st'⟩ ∧ Q x en' mk' st'

theorem APost.ext {N : Nat} {c0 c1 : Cx} {Q : AQ} (h : Ext c0 c1) {e : Exit} {a : Act} {w : World} (k : APost N c1 Q e a w) : APost N c0 Q e a w := by
  obtain ⟨x, en', mk', st', ρ', D', he, hw, her, hm, hx, hq⟩ := k
  exact ⟨x, en', mk', st', ρ', D', he, hw, her, hm, h.trans hx, hq⟩

theorem APost.mono {N : Nat} {c0 : Cx} {Q Q' : AQ} {e : Exit} {a : Act} {w : World} (k : APost N c0 Q e a w) (h : ∀ x en mk st, Q x en mk st → Q' x en mk st) : APost N c0 Q' e a w := by
  obtain ⟨x, en', mk', st', ρ', D', he, hw, her, hm, hx, hq⟩ := k
  exact ⟨x, en', mk', st', ρ', D', he, hw, her, hm, hx, h _ _ _ _ hq⟩

/-- The code, from an environment, marks and objects on, comes to what Q says. -/
def AW (P : Program) (N : Nat) (rd : Option Nat) (c : Code) (en : Env) (mk : List Nat) (st : List AO) (Q : AQ) : Prop :=
  ∀ F n a w ρ D, FR ρ rd F → WR ⟨w, ρ, D, st⟩ → ER ⟨w, ρ, D, st⟩ en N a.tmps → MR ρ mk a.defers → c.wpIn F n P (APost N ⟨w, ρ, D, st⟩ Q) a w

section
variable {P : Program} {N : Nat} {rd : Option Nat} {en : Env} {mk : List Nat} {st : List AO} {Q Q' : AQ}

theorem FR.ext {c c' : Cx} (h : Ext c c') {rd : Option Nat} {F : Fence} (k : FR c.ρ rd F) : FR c'.ρ rd F := by
  rcases k with k | ⟨i, b, h1, h2, h3⟩
  · exact .inl k
  · refine .inr ⟨i, b, h1, ?_, h3⟩
    rcases h.ρsame _ _ h2 with h4 | ⟨_, _, _, _, _, _, h4, _⟩
    · exact h4
    · cases h4

theorem AW.mono {c : Code} (h : AW P N rd c en mk st Q) (hq : ∀ x en mk st, Q x en mk st → Q' x en mk st) : AW P N rd c en mk st Q' :=
  fun F n a w ρ D hF hW hE hM => wpIn_mono (h F n a w ρ D hF hW hE hM) fun _ _ _ k => k.mono hq

theorem aw_skip (h : Q .normal en mk st) : AW P N rd .skip en mk st Q :=
  fun _ _ _ w ρ D _ hW hE hM => wpIn_skip ⟨.normal, en, mk, st, ρ, D, rfl, hW, hE, hM, .refl _, h⟩

theorem aw_exit {id : Nat} (h : Q (.exit id) en mk st) : AW P N rd (.exit id) en mk st Q :=
  fun _ _ _ w ρ D _ hW hE hM => wpIn_exit ⟨.exit id, en, mk, st, ρ, D, rfl, hW, hE, hM, .refl _, h⟩

theorem aw_ret (h : Q .ret en mk st) : AW P N rd .ret en mk st Q :=
  fun _ _ _ w ρ D _ hW hE hM => wpIn_ret ⟨.ret, en, mk, st, ρ, D, rfl, hW, hE, hM, .refl _, h⟩

/-- What follows a first part. -/
def thenQ (k : Env → List Nat → List AO → Prop) (Q : AQ) : AQ := fun x en mk st => match x with
  | .normal => k en mk st
  | x => Q x en mk st

theorem aw_seq {x y : Code} (h : AW P N rd x en mk st (thenQ (fun en mk st => AW P N rd y en mk st Q) Q)) : AW P N rd (.seq x y) en mk st Q := by
  intro F n a w ρ D hF hW hE hM
  refine wpIn_seq (wpIn_mono (h F n a w ρ D hF hW hE hM) ?_)
  rintro e a' w' ⟨x, en', mk', st', ρ', D', rfl, hW', hE', hM', hX, hq⟩
  cases x with
  | normal => exact wpIn_mono (hq F n a' w' ρ' D' (FR.ext hX hF) hW' hE' hM') fun _ _ _ k => k.ext hX
  | exit id => exact ⟨.exit id, en', mk', st', ρ', D', rfl, hW', hE', hM', hX, hq⟩
  | ret => exact ⟨.ret, en', mk', st', ρ', D', rfl, hW', hE', hM', hX, hq⟩

def blockQ (id : Nat) (Q : AQ) : AQ := fun x en mk st => match x with
  | .exit i => if i = id then Q .normal en mk st else Q (.exit i) en mk st
  | x => Q x en mk st

theorem aw_block {id : Nat} {c : Code} (h : AW P N rd c en mk st (blockQ id Q)) : AW P N rd (.block id c) en mk st Q := by
  intro F n a w ρ D hF hW hE hM
  refine wpIn_block (wpIn_mono (h F n a w ρ D hF hW hE hM) ?_)
  rintro e a' w' ⟨x, en', mk', st', ρ', D', rfl, hW', hE', hM', hX, hq⟩
  cases x with
  | normal => exact ⟨.normal, en', mk', st', ρ', D', rfl, hW', hE', hM', hX, hq⟩
  | exit i =>
    simp only [AX.ex, Exit.inBlock]
    by_cases hi : i = id
    · simp only [blockQ, hi, if_true] at hq
      simp only [hi, if_true]
      exact ⟨.normal, en', mk', st', ρ', D', rfl, hW', hE', hM', hX, hq⟩
    · simp only [blockQ, hi, if_false] at hq
      simp only [hi, if_false]
      exact ⟨.exit i, en', mk', st', ρ', D', rfl, hW', hE', hM', hX, hq⟩
  | ret => exact ⟨.ret, en', mk', st', ρ', D', rfl, hW', hE', hM', hX, hq⟩

/-- A constant as an abstract value. -/
def constC (v : Value) : AV := match v with
  | .slice none 0 0 => .sl true []
  | v => if plainV v then .sc v else .any
def constA (v : Value) : AV := match v with
  | .agg cs => if cs.all (fun v => v.oneCell') then .agg (cs.toList.map constC) else .any
  | v => constC v

def opA (en : Env) : Operand → AV
  | .tmp t => en.get t
  | .const v => constA v
  | .global _ => .any
  | .func f => .fn f 0 []

theorem VR.nil {c : Cx} : VR c (.sl true []) (.slice none 0 0) :=
  .sl 0 (fun _ => undef) rfl (Nat.le_refl _) (fun _ => rfl) (by unfold maxLen; omega) (by omega) (fun _ => rfl) (fun _ h => by cases h) (fun _ h => by cases h) (fun _ h => by cases h)
    (fun _ _ _ h => by cases h) (fun _ _ h => by simp [flat] at h) (fun _ _ h => by simp [flat] at h)

theorem VR.constC {c : Cx} (v : Value) : VR c (constC v) v := by
  unfold AW.constC
  split
  · exact .nil
  · split
    · exact .sc ‹_›
    · exact .any

theorem VR.constA {c : Cx} (v : Value) : VR c (constA v) v := by
  unfold AW.constA
  split
  · rename_i cs
    split
    · rename_i h
      refine .agg (by simp) (fun v hv => ?_) ?_
      · have h' := Array.all_eq_true'.1 h
        exact h' v hv
      · intro i x v hx hv
        simp only [List.getElem?_map, Array.getElem?_toList, hv, Option.map_some, Option.some.injEq] at hx
        exact hx ▸ .constC v
    · exact .any
  · exact .constC v

theorem ER.opA {c : Cx} {en : Env} {N : Nat} {a : Act} (h : ER c en N a.tmps) (x : Operand) : VR c (opA en x) (a.eval x) := by
  cases x with
  | tmp t =>
    rcases h.2 t with h | h
    · simp only [AW.opA, h]; exact .any
    · exact h.2
  | const v => exact .constA v
  | global g => exact .any
  | func f => exact .fn rfl rfl (fun i x v hx => by simp at hx)

theorem ER.ext {c c' : Cx} (h : Ext c c') {en : Env} {N : Nat} {tmps : Array Value} (k : ER c en N tmps) : ER c' en N tmps :=
  ⟨k.1, fun i => (k.2 i).imp id fun ⟨a, b⟩ => ⟨a, b.mono h⟩⟩

theorem MR.ext {c c' : Cx} (h : Ext c c') {mk : List Nat} {ds : List Deferred} (k : MR c.ρ mk ds) : MR c'.ρ mk ds := by
  refine ⟨k.1, fun j i d hi hd => ?_⟩
  obtain ⟨b, hb, rfl⟩ := k.2 j i d hi hd
  rcases h.ρsame _ _ hb with h1 | ⟨_, _, _, _, _, _, h1, _⟩
  · exact ⟨b, h1, rfl⟩
  · simp [dfrH] at h1

theorem ER.put {c : Cx} {en : Env} {N : Nat} {a : Act} (h : ER c en N a.tmps) {d : Nat} (hd : d < N) {x : AV} {v : Value} (hv : VR c x v) :
    ER c ((d, x) :: en) N (a.put (some d) v).tmps := by
  refine ⟨by simp [Act.put, h.1], fun i => ?_⟩
  simp only [Env.get]
  by_cases hi : i = d
  · subst hi
    rw [if_pos rfl]
    refine .inr ⟨hd, ?_⟩
    have : (a.put (some i) v).tmps.getD i undef = v := by simp [Act.put, Array.getD_eq_getD_getElem?, h.1, hd]
    rw [this]; exact hv
  · rw [if_neg hi]
    have : (a.put (some d) v).tmps.getD i undef = a.tmps.getD i undef := by
      simp [Act.put, Array.getD_eq_getD_getElem?, Array.getElem?_setIfInBounds_ne (Ne.symm hi)]
    rw [this]; exact h.2 i

theorem aw_cond {x : Operand} {c d : Code} {b : Bool} (hb : opA en x = .sc (.bool b)) (h : if b then AW P N rd c en mk st Q else AW P N rd d en mk st Q) :
    AW P N rd (.cond x c d) en mk st Q := by
  intro F n a w ρ D hF hW hE hM
  have hv := hE.opA (a := a) x
  rw [hb] at hv
  have he : a.eval x = .bool b := by
    generalize a.eval x = v at hv
    cases hv; rfl
  cases b with
  | true => exact wpIn_cond_true he (h F n a w ρ D hF hW hE hM)
  | false => exact wpIn_cond_false he (h F n a w ρ D hF hW hE hM)

/-- A smaller environment says less. -/
def Env.sub (en' en : Env) : Prop := ∀ i, en'.get i = .any ∨ en'.get i = en.get i

theorem AW.weaken {c : Code} {en' : Env} (hs : en'.sub en) (h : AW P N rd c en' mk st Q) : AW P N rd c en mk st Q := by
  intro F n a w ρ D hF hW hE hM
  refine h F n a w ρ D hF hW ⟨hE.1, fun i => ?_⟩ hM
  rcases hs i with h | h
  · exact .inl h
  · rw [h]; exact hE.2 i

end
end Go.AW

/-
  AW, part 3: dropping objects and freezing slices at the end of a call or of a round.
-/
namespace Go.AW
open Go Go.RowKit
set_option linter.unusedVariables false
set_option linter.unusedSimpArgs false

mutual
/-- Does it name only objects below m? (what a pure slice holds names none) -/
def AV.ok (m : Nat) : AV → Bool
  | .any | .sc _ | .sl _ _ => true
  | .acc g _ => decide (g < m)
  | .ref i _ => decide (i < m)
  | .mp i => decide (i < m)
  | .yl i => decide (i < m)
  | .agg cs => AV.okL m cs
  | .tup cs => AV.okL m cs
  | .fn _ _ cs => AV.okL m cs
  | .ep s _ _ _ => s.ok m
  | .av g _ _ _ _ => decide (g < m)
def AV.okL (m : Nat) : List AV → Bool
  | [] => true
  | x :: xs => x.ok m && AV.okL m xs
end

theorem AV.okL_iff {m : Nat} {cs : List AV} : AV.okL m cs = true ↔ ∀ x ∈ cs, x.ok m = true := by
  induction cs with
  | nil => simp [AV.okL]
  | cons x xs ih => simp [AV.okL, ih]

mutual
theorem AV.ok_mono {m k : Nat} (h : m ≤ k) : ∀ {x : AV}, x.ok m = true → x.ok k = true
  | .any, _ | .sc _, _ | .sl _ _, _ => by simp [AV.ok]
  | .acc g _, h1 | .ref i _, h1 | .mp i, h1 | .yl i, h1 | .av g _ _ _ _, h1 => by simp [AV.ok] at h1 ⊢; omega
  | .agg cs, h1 => by simp only [AV.ok] at h1 ⊢; exact AV.okL_mono h h1
  | .tup cs, h1 => by simp only [AV.ok] at h1 ⊢; exact AV.okL_mono h h1
  | .fn _ _ cs, h1 => by simp only [AV.ok] at h1 ⊢; exact AV.okL_mono h h1
  | .ep s _ _ _, h1 => by simp only [AV.ok] at h1 ⊢; exact AV.ok_mono h h1
theorem AV.okL_mono {m k : Nat} (h : m ≤ k) : ∀ {cs : List AV}, AV.okL m cs = true → AV.okL k cs = true
  | [], _ => rfl
  | x :: xs, h1 => by
    simp only [AV.okL, Bool.and_eq_true] at h1 ⊢
    exact ⟨AV.ok_mono h h1.1, AV.okL_mono h h1.2⟩
end

def okE (m : Nat) : Env → Bool
  | [] => true
  | (_, v) :: r => v.ok m && okE m r
theorem okE_get {m : Nat} : ∀ {E : Env}, okE m E = true → ∀ i, (E.get i).ok m = true
  | [], _, _ => rfl
  | (k, v) :: r, h, i => by
    simp only [okE, Bool.and_eq_true] at h
    simp only [Env.get]
    split
    · exact h.1
    · exact okE_get h.2 i

/-- An object's contents. -/
def AO.ok (m : Nat) : AO → Prop
  | .cells cs => AV.okL m cs = true
  | .iter i _ _ _ => i < m
  | .loop _ en _ _ _ _ _ _ _ => ∀ t, (en.get t).ok m = true
  | _ => True

theorem VR.ok {c : Cx} {x : AV} {v : Value} (h : VR c x v) : x.ok c.ρ.length = true := by
  induction h with
  | any => rfl
  | sc => rfl
  | @agg cs vs hl h1 h ih =>
    simp only [AV.ok, AV.okL_iff]
    intro x hx
    obtain ⟨i, hi, rfl⟩ := List.getElem_of_mem hx
    exact ih i _ _ (List.getElem?_eq_getElem hi) (Array.getElem?_eq_getElem (by omega))
  | @tup cs vs hl h ih =>
    simp only [AV.ok, AV.okL_iff]
    intro x hx
    obtain ⟨i, hi, rfl⟩ := List.getElem_of_mem hx
    exact ih i _ _ (List.getElem?_eq_getElem hi) (Array.getElem?_eq_getElem (by omega))
  | sl => rfl
  | acc hg _ _ _ h => simp [AV.ok, hg]
  | ref h => simp [AV.ok]; exact (List.getElem?_eq_some_iff.1 h).1
  | ep _ _ ih => simpa [AV.ok] using ih
  | mp h => simp [AV.ok]; exact (List.getElem?_eq_some_iff.1 h).1
  | @fn f k cs us vs hk hl h ih =>
    simp only [AV.ok, AV.okL_iff]
    intro x hx
    obtain ⟨i, hi, rfl⟩ := List.getElem_of_mem hx
    exact ih i _ _ (List.getElem?_eq_getElem hi) (Array.getElem?_eq_getElem (by omega))
  | yl h => simp [AV.ok]; exact (List.getElem?_eq_some_iff.1 h).1
  | av hg _ _ h => simp [AV.ok, hg]

theorem AO.ok_mono {m k : Nat} (h : m ≤ k) {o : AO} (h1 : o.ok m) : o.ok k := by
  cases o with
  | cells cs => exact AV.okL_mono h h1
  | iter i _ _ _ => exact Nat.lt_of_lt_of_le h1 h
  | loop _ en _ _ _ _ _ _ _ => exact fun t => AV.ok_mono h (h1 t)
  | _ => trivial

theorem OR.ok {c : Cx} {i : Nat} {o : AO} (h : OR c i o) : o.ok c.ρ.length := by
  cases o with
  | cells cs =>
    obtain ⟨b, e, vs, h1, h2, h3, h4, h5⟩ := h
    simp only [AO.ok, AV.okL_iff]
    intro x hx
    obtain ⟨i, hi, rfl⟩ := List.getElem_of_mem hx
    exact (h5 i _ _ (List.getElem?_eq_getElem hi) (Array.getElem?_eq_getElem (by omega))).ok
  | iter => exact h.1
  | loop N en ps asg body _ _ ls pend =>
    obtain ⟨b, r, _, _, _, _, _, _, _, _, h⟩ := h
    intro t
    rcases h t with h | ⟨_, h⟩
    · rw [h]; rfl
    · exact h.ok
  | _ => trivial

/-- What is said of a value that names only objects below m stays true when the others are dropped. -/
theorem VR.drop {c c' : Cx} {m : Nat} (hd : ∀ b off, c.D b off → c'.D b off) (hs : ∀ b off, c.D b off → c'.w.cell? ⟨b, off, none⟩ = c.w.cell? ⟨b, off, none⟩)
    (hρ : ∀ i, i < m → c'.ρ[i]? = c.ρ[i]?) (hst : ∀ (i : Nat) e sz xs, i < m → c'.st[i]? = some (.acc e sz xs) → c.st[i]? = some (.acc e sz xs)) (hml : m ≤ c'.ρ.length)
    {x : AV} {v : Value} (hv : VR c x v) (hp : x.ok m = true) : VR c' x v := by
  induction hv with
  | any => exact .any
  | sc h => exact .sc h
  | @agg cs vs hl h1 h ih =>
    simp only [AV.ok, AV.okL_iff] at hp
    exact .agg hl h1 (fun i x v hx hvv => ih i x v hx hvv (hp x (List.mem_of_getElem? hx)))
  | @tup cs vs hl h ih =>
    simp only [AV.ok, AV.okL_iff] at hp
    exact .tup hl (fun i x v hx hvv => ih i x v hx hvv (hp x (List.mem_of_getElem? hx)))
  | @sl clip xs a n cp sz vals hn hc hcl hm hb ha hsp hpp hsz hcell h1 h ih =>
    exact VR.pureMono hd hs (.sl sz vals hn hc hcl hm hb ha hsp hpp hsz hcell h1 h) rfl
  | acc hg ha hm hc h =>
    simp only [AV.ok, decide_eq_true_eq] at hp
    refine .acc (by omega) ha hm hc (fun e sz xs hx => ?_)
    obtain ⟨h1, h2⟩ := h e sz xs (hst _ e sz xs hp hx)
    exact ⟨h1, fun hl => (hρ _ hp).trans (h2 hl)⟩
  | ref h => simp only [AV.ok, decide_eq_true_eq] at hp; exact .ref ((hρ _ hp).trans h)
  | ep _ hi ih => exact .ep (ih (by simpa [AV.ok] using hp)) hi
  | mp h => simp only [AV.ok, decide_eq_true_eq] at hp; exact .mp ((hρ _ hp).trans h)
  | @fn f k cs us vs hk hl h ih =>
    simp only [AV.ok, AV.okL_iff] at hp
    exact .fn hk hl (fun i x v hx hvv => ih i x v hx hvv (hp x (List.mem_of_getElem? hx)))
  | yl h => simp only [AV.ok, decide_eq_true_eq] at hp; exact .yl ((hρ _ hp).trans h)
  | av hg hm hs h =>
    simp only [AV.ok, decide_eq_true_eq] at hp
    refine .av (by omega) hm hs (fun e xs hx => ?_)
    obtain ⟨h1, h2, h3⟩ := h e xs (hst _ e _ xs hp hx)
    exact ⟨h1, h2, fun hl => by rw [hρ _ hp]; exact h3 hl⟩

/-- The slices under construction from m on become slices that are never written again. -/
def Frozen (c : Cx) (m : Nat) (b off : Nat) : Prop :=
  c.D b off ∨ ∃ g e sz xs, m ≤ g ∧ c.st[g]? = some (.acc e sz xs) ∧ Owns c g b ∧ ∃ v, c.w.cell? ⟨b, off, none⟩ = some v

def Cx.cut (c : Cx) (m : Nat) : Cx := ⟨c.w, c.ρ.take m, Frozen c m, c.st.take m⟩

theorem Owns.cut {c : Cx} {m i b : Nat} (h : Owns (c.cut m) i b) : i < m ∧ Owns c i b := by
  obtain ⟨o, v, h1, h2, h3, h4, h5⟩ := h
  simp only [Cx.cut, List.getElem?_take] at h1 h3
  by_cases hi : i < m
  · simp only [hi, if_true] at h1 h3
    exact ⟨hi, o, v, h1, h2, h3, h4, h5⟩
  · simp [hi] at h1

/-- Dropping: of objects below m only such are left as were there at the beginning, or name none from m on. -/
theorem WR.cut {c0 c : Cx} (h0 : WR c0) (h : WR c) (hx : Ext c0 c) {m : Nat} (hm : c0.st.length ≤ m) (hm' : m ≤ c.st.length)
    (hok : ∀ (i : Nat) o, i < m → c.st[i]? = some o → c0.st[i]? = some o ∨ o.ok m) : WR (c.cut m) ∧ Ext c0 (c.cut m) := by
  have hρl : (c.cut m).ρ.length = m := by simp [Cx.cut, h.len]; omega
  have hρ : ∀ i, i < m → (c.cut m).ρ[i]? = c.ρ[i]? := fun i hi => by simp [Cx.cut, List.getElem?_take, hi]
  have hst : ∀ i, i < m → (c.cut m).st[i]? = c.st[i]? := fun i hi => by simp [Cx.cut, List.getElem?_take, hi]
  have vr : ∀ {x : AV} {v : Value}, VR c x v → x.ok m = true → VR (c.cut m) x v := fun hv hp =>
    VR.drop (c' := c.cut m) (m := m) (fun b off hd => Or.inl hd) (fun _ _ _ => rfl) hρ (fun i e sz xs hi he => by rw [hst i hi] at he; exact he) (by omega) hv hp
  refine ⟨⟨by simp [Cx.cut, h.len], fun i o ho => ?_, fun i b hi => h.lt i b hi.cut.2, fun i j b hi hj => h.sep i j b hi.cut.2 hj.cut.2, fun i b off hi hd => ?_, fun b off hd => ?_⟩, ?_⟩
  · have hi : i < m := by
      have := (List.getElem?_eq_some_iff.1 ho).1
      simp [Cx.cut] at this; omega
    rw [hst i hi] at ho
    have hO := h.obj i o ho
    have hokm : o.ok m := by
      rcases hok i o hi ho with h1 | h1
      · have h2 := (h0.obj i o h1).ok
        rw [h0.len] at h2
        exact AO.ok_mono hm h2
      · exact h1
    cases o with
    | dead => trivial
    | cells cs =>
      obtain ⟨b, e, vs, k1, k2, k3, k4, k5⟩ := hO
      simp only [AO.ok, AV.okL_iff] at hokm
      exact ⟨b, e, vs, (hρ i hi).trans k1, k2, k3, k4, fun j x v hj hv => vr (k5 j x v hj hv) (hokm x (List.mem_of_getElem? hj))⟩
    | acc e sz xs =>
      obtain ⟨k1, k2, k3, v, vals, k4, k5, k6, k7, k8⟩ := hO
      refine ⟨k1, k2, k3, v, vals, (hρ i hi).trans k4, k5, k6, k7, fun j x u hj hu => ?_⟩
      have hv := k8 j x u hj hu
      refine VR.pureMono (c' := c.cut m) (fun _ _ hd => .inl hd) (fun _ _ _ => rfl) hv ?_
      obtain ⟨y, hy, hxy⟩ := List.mem_flatMap.1 (List.mem_of_getElem? hj)
      have hy' := k2 y hy
      cases y <;> simp_all [AV.cells, AV.pure1, AV.flatOk]
      have := hy' x hxy
      cases x <;> simp_all [AV.flatOk, AV.pure1]
    | map clk ents =>
      obtain ⟨b, k1, k2⟩ := hO
      exact ⟨b, (hρ i hi).trans k1, k2⟩
    | iter mm since seen last =>
      obtain ⟨k0, b, bm, k1, k2, k3⟩ := hO
      simp only [AO.ok] at hokm
      exact ⟨by rw [hρl]; exact hokm, b, bm, (hρ i hi).trans k1, (hρ mm hokm).trans k2, k3⟩
    | dfr =>
      obtain ⟨b, k1, k2⟩ := hO
      exact ⟨b, (hρ i hi).trans k1, k2⟩
    | loop N en ps asg body _ _ ls pend =>
      obtain ⟨b, r, k1, k2, k3, k4, k5, k6, k7, k8, k9⟩ := hO
      simp only [AO.ok] at hokm
      exact ⟨b, r, (hρ i hi).trans k1, k2, k3, k4, k5, k6, k7, k8, fun t => (k9 t).imp id (fun ⟨l1, l2⟩ => ⟨l1, vr l2 (hokm t)⟩)⟩
  · obtain ⟨him, hi⟩ := hi.cut
    rcases hd with hd | ⟨g, e, sz, xs, hg, _, hgo, _⟩
    · exact h.dis i b off hi hd
    · have := h.sep i g b hi hgo
      omega
  · rcases hd with hd | ⟨g, e, sz, xs, hg, _, hgo, hv⟩
    · exact h.cell b off hd
    · exact hv
  · refine ⟨hx.os, hx.tape, hx.output, hx.size, fun b off hd => .inl (hx.dmono b off hd), hx.dsame, by rw [hρl, h0.len]; exact hm, fun i v hv => ?_, fun g e sz xs' hg he => ?_, fun b hb hn => hx.frame b hb hn, fun i b hi hb => hx.own i b hi.cut.2 hb, fun b off hd hb => ?_⟩
    rotate_left
    rotate_left
    · rcases hd with hd | ⟨g, e, sz, xs, hg, _, hgo, _⟩
      · exact hx.dnew b off hd hb
      · exact .inr (hx.own g b hgo hb)
    · have hi : i < m := by have := (List.getElem?_eq_some_iff.1 hv).1; rw [h0.len] at this; omega
      rw [hρ i hi]; exact hx.ρsame i v hv
    · have hi : g < m := by rw [h0.len] at hg; omega
      rw [hst g hi] at he
      rw [hρ g hi]
      exact hx.acc g e sz xs' hg he

theorem flat_len {xs : List AV} {sz : Nat} (h : ∀ x ∈ xs, x.cells.length = sz) : (flat xs).length = xs.length * sz := by
  induction xs with
  | nil => simp [flat]
  | cons x xs ih =>
    have := ih (fun y hy => h y (List.mem_cons_of_mem _ hy))
    simp only [flat, List.flatMap_cons, List.length_append, List.length_cons] at this ⊢
    rw [this, h x (List.mem_cons_self ..), Nat.add_mul]; omega

theorem flat_get {sz : Nat} : ∀ {xs : List AV} (h : ∀ x ∈ xs, x.cells.length = sz) {i : Nat} {e : AV} (hi : xs[i]? = some e) {k : Nat} (hk : k < sz), (flat xs)[i * sz + k]? = e.cells[k]?
  | [], _, _, _, hi, _, _ => by simp at hi
  | x :: xs, h, 0, e, hi, k, hk => by
    simp at hi; subst hi
    simp only [flat, List.flatMap_cons, Nat.zero_mul, Nat.zero_add]
    rw [List.getElem?_append_left (by rw [h x (List.mem_cons_self ..)]; exact hk)]
  | x :: xs, h, i + 1, e, hi, k, hk => by
    simp at hi
    have := flat_get (fun y hy => h y (List.mem_cons_of_mem _ hy)) hi hk
    simp only [flat, List.flatMap_cons] at this ⊢
    have hx := h x (List.mem_cons_self ..)
    rw [List.getElem?_append_right (by rw [hx, Nat.add_mul]; omega), hx, ← this]
    congr 1
    rw [Nat.add_mul]; omega

theorem flat_drop {sz : Nat} : ∀ {xs : List AV} (h : ∀ x ∈ xs, x.cells.length = sz) (lo : Nat), flat (xs.drop lo) = (flat xs).drop (lo * sz)
  | [], _, lo => by simp [flat]
  | x :: xs, h, 0 => by simp
  | x :: xs, h, lo + 1 => by
    have ih := flat_drop (fun y hy => h y (List.mem_cons_of_mem _ hy)) lo
    simp only [flat, List.flatMap_cons, List.drop_succ_cons] at ih ⊢
    rw [ih, Nat.add_mul, Nat.one_mul, Nat.add_comm (lo * sz) sz, ← List.drop_drop, ← h x (List.mem_cons_self ..)]
    simp
theorem flat_take {sz : Nat} : ∀ {xs : List AV} (h : ∀ x ∈ xs, x.cells.length = sz) (n : Nat), flat (xs.take n) = (flat xs).take (n * sz)
  | [], _, lo => by simp [flat]
  | x :: xs, h, 0 => by simp [flat]
  | x :: xs, h, n + 1 => by
    have ih := flat_take (fun y hy => h y (List.mem_cons_of_mem _ hy)) n
    simp only [flat, List.flatMap_cons, List.take_succ_cons] at ih ⊢
    have hx := h x (List.mem_cons_self ..)
    rw [ih, Nat.add_mul, Nat.one_mul, List.take_append, hx, List.take_of_length_le (l := x.cells) (by omega), Nat.add_sub_cancel]
theorem flat_sub {sz : Nat} {xs : List AV} (h : ∀ x ∈ xs, x.cells.length = sz) {lo n j : Nat} {x : AV} (hx : (flat ((xs.drop lo).take n))[j]? = some x) : (flat xs)[lo * sz + j]? = some x := by
  rw [flat_take (fun y hy => h y (List.mem_of_mem_drop hy)), flat_drop h, List.getElem?_take] at hx
  split at hx
  · rwa [List.getElem?_drop] at hx
  · cases hx

/-- A cell as it is handed on: slices under construction from m on are frozen. -/
def AV.frzC (st : List AO) (m : Nat) : AV → AV
  | .acc g n => if g < m then .acc g n else match st[g]? with
    | some (.acc _ _ xs) => if n = xs.length then .sl false xs else .any
    | _ => .any
  | .av g N sz lo n => if g < m then .av g N sz lo n else match n with
    | 0 => .sl false []
    | n + 1 => match st[g]? with
      | some (.acc _ sz' xs) => if N = xs.length ∧ sz' = sz then .sl false ((xs.drop lo).take (n + 1)) else .any
      | _ => .any
  | .sl b xs => .sl b xs
  | x => if x.ok m then x else .any
def AV.frzV (st : List AO) (m : Nat) : AV → AV
  | .agg cs => .agg (cs.map (AV.frzC st m))
  | x => x.frzC st m
def AV.frz (st : List AO) (m : Nat) : AV → AV
  | .tup cs => .tup (cs.map (AV.frzV st m))
  | x => x.frzV st m

theorem VR.clipOff {c : Cx} {b : Bool} {xs : List AV} {v : Value} (h : VR c (.sl b xs) v) : VR c (.sl false xs) v := by
  cases h with
  | sl sz vals hn hc hcl hm hb ha hsp hpp hsz hcell h1 h => exact .sl sz vals hn hc (fun h => by cases h) hm hb ha hsp hpp hsz hcell h1 h

theorem VR.frzC {c : Cx} (h : WR c) {m : Nat} (hm : m ≤ c.st.length) {x : AV} {v : Value} (hv : VR c x v) : VR (c.cut m) (x.frzC c.st m) v := by
  have hρl : (c.cut m).ρ.length = m := by simp [Cx.cut, h.len]; omega
  have hρ : ∀ i, i < m → (c.cut m).ρ[i]? = c.ρ[i]? := fun i hi => by simp [Cx.cut, List.getElem?_take, hi]
  have hst : ∀ i, i < m → (c.cut m).st[i]? = c.st[i]? := fun i hi => by simp [Cx.cut, List.getElem?_take, hi]
  have vr : ∀ {x : AV} {v : Value}, VR c x v → x.ok m = true → VR (c.cut m) x v := fun hv hp =>
    VR.drop (c' := c.cut m) (m := m) (fun b off hd => Or.inl hd) (fun _ _ _ => rfl) hρ (fun i e sz xs hi he => by rw [hst i hi] at he; exact he) (by omega) hv hp
  have gen : ∀ {x : AV}, VR c x v → VR (c.cut m) (if x.ok m then x else .any) v := fun {x} hv => by
    split
    · exact vr hv ‹_›
    · exact .any
  cases x with
  | acc g n =>
    simp only [AV.frzC]
    split
    · exact vr hv (by simp [AV.ok]; assumption)
    · rename_i hgm
      split
      · rename_i e sz xs hg
        split
        · rename_i hn
          subst hn
          have hO := h.obj g _ hg
          obtain ⟨k1, k2, k3, v0, vals, k4, k5, k6, k7, k8⟩ := hO
          cases hv with
          | @acc _ _ cp a hgl _ _ _ hacc =>
            obtain ⟨_, hh⟩ := hacc e sz xs hg
            have he := hh rfl
            rw [k4] at he
            injection he with he
            subst he
            have pm : ∀ (j : Nat) x u, (flat xs)[j]? = some x → vals[j]? = some u → VR (c.cut m) x u := fun j x u hj hu => by
              refine VR.pureMono (c' := c.cut m) (fun _ _ hd => .inl hd) (fun _ _ _ => rfl) (k8 j x u hj hu) ?_
              obtain ⟨y, hy, hxy⟩ := List.mem_flatMap.1 (List.mem_of_getElem? hj)
              have hy' := k2 y hy
              cases y <;> simp_all [AV.cells, AV.pure1, AV.flatOk]
              have := hy' x hxy
              cases x <;> simp_all [AV.flatOk, AV.pure1]
            rcases k5 with ⟨a', hv, rfl, rfl⟩ | hown
            · injection hv with h1 h2 h3
              subst h1; subst h3
              exact .sl 0 (fun _ => undef) rfl (Nat.le_refl _) (fun h => by cases h) (by unfold maxLen; omega) (by simp) (fun _ => rfl) (fun _ _ h => by simp at h) (fun _ h => by cases h) (fun _ h => by cases h)
                (fun _ _ _ _ h => by simp [flat] at h) (fun _ _ h => by simp [flat] at h) (fun _ _ h => by simp [flat] at h)
            · obtain ⟨hl, bk, cap, cur, hv, hcap0, hheap, hnc, hcm, hcur, htk⟩ := hown
              · injection hv with h1 h2 h3
                subst h1; subst h3
                have hcell : ∀ (j : Nat) x, (flat xs)[j]? = some x → ∃ u, vals[j]? = some u ∧ cur[j]? = some u := fun j x hj => by
                  have hjl : j < vals.length := by rw [k6]; exact (List.getElem?_eq_some_iff.1 hj).1
                  obtain ⟨u, hu⟩ : ∃ u, vals[j]? = some u := ⟨vals[j], List.getElem?_eq_getElem hjl⟩
                  refine ⟨u, hu, ?_⟩
                  rw [← htk, List.getElem?_take] at hu
                  split at hu
                  · simpa only [Array.getElem?_toList] using hu
                  · cases hu
                refine .sl sz (fun j => vals.getD j undef) rfl hnc (fun h => by cases h) hcm k1.2 (fun h => by cases h) (fun _ h _ => by injection h with h; rw [← h]) k2 k3 (fun ad j x ha hx => ?_) (fun j x hx => ?_) (fun j x hx => ?_)
                · injection ha with ha; subst ha
                  obtain ⟨u, hu, hc⟩ := hcell j x hx
                  have hcl : c.w.cell? ⟨bk, 0 + j, none⟩ = some u := by rw [Nat.zero_add, cell_of_row c.w bk j cur e (0, 0) hheap]; exact hc
                  refine ⟨rfl, Or.inr ⟨g, e, sz, xs, by omega, hg, ⟨_, _, hg, rfl, k4, rfl, fun _ _ _ _ a n cp hv => ?_⟩, u, hcl⟩, ?_⟩
                  · injection hv with _ _ h3
                    rw [← h3]
                    have : 0 < (flat xs).length := Nat.lt_of_le_of_lt (Nat.zero_le _) (List.getElem?_eq_some_iff.1 hx).1
                    have : 0 < xs.length := by
                      cases xs with
                      | nil => simp [flat] at this
                      | cons _ _ => simp
                    omega
                  · refine hcl.trans ?_; simp [List.getD_eq_getElem?_getD, hu]
                · obtain ⟨u, hu, _⟩ := hcell j x hx
                  simp only [List.getD_eq_getElem?_getD, hu, Option.getD_some]
                  exact k7 u (List.mem_of_getElem? hu)
                · obtain ⟨u, hu, _⟩ := hcell j x hx
                  simp only [List.getD_eq_getElem?_getD, hu, Option.getD_some]
                  exact pm j x u hx hu
        · exact .any
      · exact .any
  | av g N sz' lo n =>
    simp only [AV.frzC]
    split
    · exact vr hv (by simp [AV.ok]; assumption)
    · rename_i hgm
      cases hv with
      | av hgl hmx hs hacc =>
        obtain ⟨a, cp, rfl, h1, h2, h3, h4⟩ := hs
        cases n with
        | zero =>
          exact .sl 0 (fun _ => undef) rfl (Nat.zero_le _) (fun h => by cases h) h2 (by omega) h3 (fun _ _ h => by omega) (fun _ h => by cases h) (fun _ h => by cases h)
            (fun _ _ _ _ h => by simp [flat] at h) (fun _ _ h => by simp [flat] at h) (fun _ _ h => by simp [flat] at h)
        | succ n =>
          simp only
          split
          · rename_i e sz xs hg
            split
            · rename_i hn
              obtain ⟨rfl, rfl⟩ := hn
              obtain ⟨k1, k2, k3, v0, vals, k4, k5, k6, k7, k8⟩ := h.obj g _ hg
              obtain ⟨l1, l2, l3⟩ := hacc e xs hg
              obtain ⟨b, cpb, l4, a', l5, l6⟩ := l3 rfl
              rw [k4] at l4
              injection l4 with l4; subst l4
              injection l5 with l5 _ l7; subst l5
              obtain ⟨ad, rfl, l8⟩ := l6 (by omega)
              have pm : ∀ (j : Nat) x u, (flat xs)[j]? = some x → vals[j]? = some u → VR (c.cut m) x u := fun j x u hj hu => by
                refine VR.pureMono (c' := c.cut m) (fun _ _ hd => .inl hd) (fun _ _ _ => rfl) (k8 j x u hj hu) ?_
                obtain ⟨y, hy, hxy⟩ := List.mem_flatMap.1 (List.mem_of_getElem? hj)
                have hy' := k2 y hy
                cases y <;> simp_all [AV.cells, AV.pure1, AV.flatOk]
                have := hy' x hxy
                cases x <;> simp_all [AV.flatOk, AV.pure1]
              rcases k5 with ⟨a', hv, rfl, rfl⟩ | hown
              · simp at l1
              · obtain ⟨hl, bk, cap, cur, hv, hcap0, hheap, hnc, hcm, hcur, htk⟩ := hown
                injection hv with hv1 hv2 hv3
                injection hv1 with hv1; subst hv1; subst hv3; subst l8
                have hcell : ∀ (j : Nat) x, (flat xs)[j]? = some x → ∃ u, vals[j]? = some u ∧ cur[j]? = some u := fun j x hj => by
                  have hjl : j < vals.length := by rw [k6]; exact (List.getElem?_eq_some_iff.1 hj).1
                  obtain ⟨u, hu⟩ : ∃ u, vals[j]? = some u := ⟨vals[j], List.getElem?_eq_getElem hjl⟩
                  refine ⟨u, hu, ?_⟩
                  rw [← htk, List.getElem?_take] at hu
                  split at hu
                  · simpa only [Array.getElem?_toList] using hu
                  · cases hu
                have mem : ∀ x ∈ (xs.drop lo).take (n + 1), x ∈ xs := fun x hx => List.mem_of_mem_drop (List.mem_of_mem_take hx)
                refine .sl sz (fun j => vals.getD (lo * sz + j) undef) (by simp; omega) h1 (fun h => by cases h) h2 (by omega) (fun h => by cases h) (fun _ h _ => by injection h with h; rw [← h]) (fun x hx => k2 x (mem x hx)) (fun x hx => k3 x (mem x hx)) (fun ad j x ha hx => ?_) (fun j x hx => ?_) (fun j x hx => ?_)
                · injection ha with ha; subst ha
                  have hx' := flat_sub k3 hx
                  obtain ⟨u, hu, hc⟩ := hcell _ x hx'
                  have hcl : c.w.cell? ⟨bk, 0 + lo * sz + j, none⟩ = some u := by rw [Nat.zero_add, cell_of_row c.w bk _ cur e (0, 0) hheap]; exact hc
                  refine ⟨rfl, Or.inr ⟨g, e, sz, xs, by omega, hg, ⟨_, _, hg, rfl, k4, rfl, fun _ _ _ _ a n cp hv => ?_⟩, u, hcl⟩, ?_⟩
                  · injection hv with _ _ h3
                    rw [← h3]; omega
                  · refine hcl.trans ?_; simp [List.getD_eq_getElem?_getD, hu]
                · obtain ⟨u, hu, _⟩ := hcell _ x (flat_sub k3 hx)
                  simp only [List.getD_eq_getElem?_getD, hu, Option.getD_some]
                  exact k7 u (List.mem_of_getElem? hu)
                · obtain ⟨u, hu, _⟩ := hcell _ x (flat_sub k3 hx)
                  simp only [List.getD_eq_getElem?_getD, hu, Option.getD_some]
                  exact pm _ x u (flat_sub k3 hx) hu
            · exact .any
          · exact .any
  | sl b xs => exact vr hv rfl
  | any => exact gen hv
  | sc _ => exact gen hv
  | agg _ => exact gen hv
  | tup _ => exact gen hv
  | ref _ _ => exact gen hv
  | ep _ _ _ _ => exact gen hv
  | mp _ => exact gen hv
  | fn _ _ _ => exact gen hv
  | yl _ => exact gen hv


theorem VR.agg_map {c c' : Cx} {f : AV → AV} {cs : List AV} {vs : Array Value} (h : VR c (.agg cs) (.agg vs)) (hf : ∀ x v, VR c x v → VR c' (f x) v) : VR c' (.agg (cs.map f)) (.agg vs) := by
  cases h with
  | agg hl h1 h =>
    refine .agg (by simpa using hl) h1 (fun i x v hx hv => ?_)
    simp only [List.getElem?_map] at hx
    cases hc : cs[i]? with
    | none => rw [hc] at hx; cases hx
    | some y => rw [hc] at hx; injection hx with hx; subst hx; exact hf y v (h i y v hc hv)

theorem VR.frzV {c : Cx} (h : WR c) {m : Nat} (hm : m ≤ c.st.length) {x : AV} {v : Value} (hv : VR c x v) : VR (c.cut m) (x.frzV c.st m) v := by
  cases hx : x with
  | agg cs =>
    subst hx
    simp only [AV.frzV]
    cases hv with
    | agg hl h1 hh => exact VR.agg_map (.agg hl h1 hh) (fun x v hv => hv.frzC h hm)
  | _ => subst hx; simp only [AV.frzV]; exact hv.frzC h hm

theorem VR.frz {c : Cx} (h : WR c) {m : Nat} (hm : m ≤ c.st.length) {x : AV} {v : Value} (hv : VR c x v) : VR (c.cut m) (x.frz c.st m) v := by
  cases hx : x with
  | tup cs =>
    subst hx
    simp only [AV.frz]
    cases hv with
    | tup hl hh =>
      refine .tup (by simpa using hl) (fun i x v hx hv => ?_)
      simp only [List.getElem?_map] at hx
      cases hc : cs[i]? with
      | none => rw [hc] at hx; cases hx
      | some y => rw [hc] at hx; injection hx with hx; subst hx; exact (hh i y v hc hv).frzV h hm
  | _ => subst hx; simp only [AV.frz]; exact hv.frzV h hm

end Go.AW

/-
  AW, part 4: operations that compute a value and leave the objects alone.
-/
namespace Go.AW
open Go Go.RowKit
set_option linter.unusedVariables false
set_option linter.unusedSimpArgs false

/-- A value that can be stored, by its cells. -/
def AV.cells? : AV → Option (List AV)
  | .agg cs => some cs
  | .any => none
  | .tup _ => none
  | x => some [x]

def okInt (k : IntKind) (n : Int) : Bool := decide (k.min ≤ n) && decide (n ≤ k.max)

def binI (op : BinOp) (k : IntKind) (a b : Int) : Option AV := match op with
  | .add => some (.sc (.int k (k.wrap (a + b))))
  | .sub => some (.sc (.int k (k.wrap (a - b))))
  | .mul => some (.sc (.int k (k.wrap (a * b))))
  | .quo => if b = 0 then none else some (.sc (.int k (k.wrap (a.tdiv b))))
  | .rem => if b = 0 then none else some (.sc (.int k (a.tmod b)))
  | .and => some (.sc (.int k (k.wrap (BitVec.ofInt k.bits a &&& BitVec.ofInt k.bits b).toNat)))
  | .or => some (.sc (.int k (k.wrap (BitVec.ofInt k.bits a ||| BitVec.ofInt k.bits b).toNat)))
  | .xor => some (.sc (.int k (k.wrap (BitVec.ofInt k.bits a ^^^ BitVec.ofInt k.bits b).toNat)))
  | .andNot => some (.sc (.int k (k.wrap (BitVec.ofInt k.bits a &&& ~~~ BitVec.ofInt k.bits b).toNat)))
  | .eql => some (.sc (.bool (a == b)))
  | .neq => some (.sc (.bool (a != b)))
  | .lss => some (.sc (.bool (decide (a < b))))
  | .leq => some (.sc (.bool (decide (a ≤ b))))
  | .gtr => some (.sc (.bool (decide (a > b))))
  | .geq => some (.sc (.bool (decide (a ≥ b))))
  | _ => none

def shI (op : BinOp) (k : IntKind) (a b : Int) : Option AV := if b < 0 then none else match op with
  | .shl => some (.sc (.int k (k.wrap (a * 2 ^ (min b.toNat k.bits)))))
  | .shr => some (.sc (.int k (a.fdiv (2 ^ (min b.toNat k.bits)))))
  | _ => none

def binS (op : BinOp) (a b : ByteArray) : Option AV := match op with
  | .eql => some (.sc (.bool (a.toList == b.toList)))
  | .neq => some (.sc (.bool (!(a.toList == b.toList))))
  | .lss => some (.sc (.bool (Op.bytesLess a.toList b.toList)))
  | .add => if a.size + b.size ≤ 140737488355328 then some (.sc (.string (a ++ b))) else none
  | _ => none

def binInts (op : BinOp) (k : IntKind) (a : Int) (k' : IntKind) (b : Int) : Option AV := match op with
  | .shl => shI .shl k a b
  | .shr => shI .shr k a b
  | op => if k = k' then binI op k a b else none
def binBools (op : BinOp) (td : TypeDesc) (a b : Bool) : Option AV := match op, td with
  | .eql, .bool => some (.sc (.bool (a == b)))
  | .neq, .bool => some (.sc (.bool (!(a == b))))
  | _, _ => none
/-- pointers: are they both nil, or is the first one none? -/
def binPtr (op : BinOp) (td : TypeDesc) (same : Bool) : Option AV := match op, td with
  | .eql, .pointer _ => some (.sc (.bool same))
  | .neq, .pointer _ => some (.sc (.bool (!same)))
  | _, _ => none

def binA (op : BinOp) (td : TypeDesc) : AV → AV → Option AV
  | .sc (.int k a), .sc (.int k' b) => binInts op k a k' b
  | .sc (.string a), .sc (.string b) => binS op a b
  | .sc (.bool a), .sc (.bool b) => binBools op td a b
  | .sc (.pointer none), .sc (.pointer none) => binPtr op td true
  | .ref _ _, .sc (.pointer none) => binPtr op td false
  | .ep _ _ _ _, .sc (.pointer none) => binPtr op td false
  | _, _ => none

/-- What a slice reads as. -/
def rdA (st : List AO) : AV → Option (List AV)
  | .sl _ xs => some xs
  | .acc g n => match st[g]? with
    | some (.acc _ _ xs) => if n = xs.length then some xs else none
    | _ => none
  | .av g N sz lo n => match st[g]? with
    | some (.acc _ sz' xs) => if N = xs.length ∧ sz' = sz ∧ lo + n ≤ N then some ((xs.drop lo).take n) else none
    | _ => none
  | _ => none

def slen : AV → Option Nat
  | .sl _ xs => some xs.length
  | .acc _ n => some n
  | .av _ _ _ _ n => some n
  | _ => none

/-- A key as a value. -/
def scL : List AV → Option (List Value)
  | [] => some []
  | .sc v :: r => (scL r).map (v :: ·)
  | _ => none
def keyA : AV → Option Value
  | .sc v => some v
  | .agg cs => (scL cs).map fun vs => .agg vs.toArray
  | _ => none
/-- Of what kind is a key? -/
def tagV : Value → Nat
  | .int _ _ => 0
  | .string _ => 1
  | .bool _ => 2
  | _ => 3
def ksOk : KS → Value → Bool
  | .one t, v => tagV v == t && t != 3
  | .agg ts, .agg cs => cs.toList.map tagV == ts
  | _, _ => false
/-- A key of a kind. -/
def keyG (tag : KS) (x : AV) : Option Value := match keyA x with
  | some v => if ksOk tag v then some v else none
  | none => none
def keyEq1 : Value → Value → Option Bool
  | .int k a, .int k' b => if k = k' then some (a == b) else none
  | .string a, .string b | .bool a, .bool b => some (a == b)
  | _, _ => none
def keyEqL : List Value → List Value → Option Bool
  | [], [] => some true
  | a :: r, b :: s => match keyEq1 a b with
    | some true => keyEqL r s
    | x => x
  | _, _ => none
def keyEq : Value → Value → Option Bool
  | .agg a, .agg b => if a.toList.map tagV = b.toList.map tagV then keyEqL a.toList b.toList else none
  | a, b => keyEq1 a b
/-- Where a key stands. -/
def findK (key : Value) : List MapEntry → Nat → Option (Option Nat)
  | [], _ => some none
  | e :: es, i => match keyEq key e.key with
    | some true => some (some i)
    | some false => findK key es (i + 1)
    | none => none

def max2A (mx : Bool) : AV → AV → Option AV
  | .sc (.int k x), .sc (.int k' y) => if k = k' then some (.sc (.int k (if mx then (if y > x then y else x) else (if y < x then y else x)))) else none
  | _, _ => none
def mmA (mx : Bool) : AV → List AV → Option AV
  | x, [] => some x
  | x, y :: r => match max2A mx x y with
    | some z => mmA mx z r
    | none => none

/-- A part of cells, as one value. -/
def partA (agg : Bool) (off n : Nat) (cs : List AV) : Option AV :=
  if agg then (if off + n ≤ cs.length then some (.agg ((cs.drop off).take n)) else none) else cs[off]?

def loadA (st : List AO) (agg : Bool) (n : Nat) : AV → Option AV
  | .ref i o => match st[i]? with
    | some (.cells cs) => partA agg o n cs
    | _ => none
  | .ep s sz i o => match rdA st s with
    | some xs => match xs[i]? with
      | some e => match e.cells? with
        | some cs => if cs.length = sz then (if agg then (if o + n ≤ sz then some (.agg ((cs.drop o).take n)) else none) else cs[o]?) else none
        | none => none
      | none => none
    | none => none
  | _ => none

def natA : AV → Option Nat
  | .sc (.int _ i) => if 0 ≤ i then some i.toNat else none
  | _ => none

/-- Slicing a slice that is never written again; within its length. -/
def slcA (xs : List AV) (clip : Bool) (lo hi mx : Option AV) : Option AV :=
  match (match mx with | none => some (if clip then some xs.length else none) | some m => (natA m).map some) with
  | none => none
  | some m => match (match hi with | none => (if mx.isSome then none else some xs.length) | some h => natA h) with
    | none => none
    | some h => match (match lo with | none => some 0 | some l => natA l) with
      | none => none
      | some l =>
        if l ≤ h ∧ h ≤ xs.length ∧ (∀ mm, m = some mm → h ≤ mm ∧ mm ≤ xs.length) then some (.sl (m == some h) ((xs.take h).drop l)) else none

/-- Slicing a slice under construction, or a part of it: within what is known of it. -/
def slcV (st : List AO) (sz g N lo0 n0 : Nat) (lo hi : Option AV) : Option AV := match st[g]? with
  | some (.acc _ sz' xs) => if N = xs.length ∧ sz' = sz ∧ lo0 + n0 ≤ N then
      match (match hi with | none => some n0 | some h => natA h) with
      | none => none
      | some h => match (match lo with | none => some 0 | some l => natA l) with
        | none => none
        | some l => if l ≤ h ∧ lo0 + h ≤ N then some (.av g N sz (lo0 + l) (h - l)) else none
    else none
  | _ => none
/-- Are a slice's three bounds in order? (nothing is told of what comes of it) -/
def slc3 (n : Nat) (lo hi mx : Option AV) : Bool := match hi, mx with
  | some h, some m => match natA h, natA m, (match lo with | none => some 0 | some l => natA l) with
    | some h, some m, some l => decide (l ≤ h) && decide (h ≤ m) && decide (m ≤ n)
    | _, _, _ => false
  | _, _ => false

def slcSA (s : ByteArray) (lo hi : Option AV) : Option AV :=
  match (match hi with | none => some s.size | some h => natA h) with
  | none => none
  | some h => match (match lo with | none => some 0 | some l => natA l) with
    | none => none
    | some l => if l ≤ h ∧ h ≤ s.size then some (.sc (.string (s.extract l h))) else none

/-- Parts laid into cells. -/
def fillA : List AV → List (Nat × Nat × AV) → Option (List AV)
  | cs, [] => some cs
  | cs, (off, size, v) :: rest => match v.cells? with
    | some vs => if vs.length = size ∧ off + size ≤ cs.length then fillA (cs.take off ++ vs ++ cs.drop (off + size)) rest else none
    | none => none

def lenA : Bool → AV → Option AV
  | true, x => match x with
    | .sc (.string s) => some (.sc (.int .i64 (s.size : Int)))
    | _ => none
  | false, x => match slen x with
    | some n => some (.sc (.int .i64 (n : Int)))
    | none => none

def evQ (op : AOp) (en : Env) (st : List AO) : Option AV := match op with
  | .mov x => some (opA en x)
  | .pick c a b => match opA en c with
    | .sc (.bool b') => some (if b' then opA en a else opA en b)
    | _ => none
  | .build zs parts => (fillA zs (parts.map fun (o, s, x) => (o, s, opA en x))).map .agg
  | .load agg n x => loadA st agg n (opA en x)
  | .nilck x => match opA en x with
    | .ref i o => some (.ref i o)
    | .ep s sz i o => some (.ep s sz i o)
    | .fn f k cs => some (.fn f k cs)
    | .yl i => some (.yl i)
    | .mp i => some (.mp i)
    | _ => none
  | .bin op td x y => binA op td (opA en x) (opA en y)
  | .un op x => match op, opA en x with
    | .not, .sc (.bool b) => some (.sc (.bool !b))
    | .neg, .sc (.int k n) => some (.sc (.int k (k.wrap (0 - n))))
    | .xor, .sc (.int k n) => some (.sc (.int k (k.wrap (BitVec.ofInt k.bits (if k.signed then -1 else k.max) ^^^ BitVec.ofInt k.bits n).toNat)))
    | _, _ => none
  | .cvi k x => match opA en x with
    | .sc (.int _ n) => some (.sc (.int k (k.wrap n)))
    | _ => none
  | .mkfn f first caps => some (.fn f first.length ((first ++ caps).map (opA en)))
  | .faddr off x => match opA en x with
    | .ref i o => some (.ref i (o + off))
    | .ep s sz i o => some (.ep s sz i (o + off))
    | _ => none
  | .fld agg off n x => match opA en x with
    | .agg cs => partA agg off n cs
    | _ => none
  | .iaddr sz x i => match slen (opA en x), natA (opA en i) with
    | some n, some k => if k < n then some (.ep (opA en x) sz k 0) else none
    | _, _ => none
  | .iaddrA len sz x i => match opA en x, natA (opA en i) with
    | .ref j o, some k => if k < len then some (.ref j (o + k * sz)) else none
    | .ep s z j o, some k => if k < len then some (.ep s z j (o + k * sz)) else none
    | _, _ => none
  | .idxS x i => match opA en x, natA (opA en i) with
    | .sc (.string s), some k => match s[k]? with
      | some b => some (.sc (.int .u8 b.toNat))
      | none => none
    | _, _ => none
  | .slc sz x lo hi mx => match opA en x with
    | .sl clip xs => if lo.isSome && !(xs.all fun y => y.cells.length == sz) then none else slcA xs clip (lo.map (opA en)) (hi.map (opA en)) (mx.map (opA en))
    | .acc g n => if mx.isSome then (if slc3 n (lo.map (opA en)) (hi.map (opA en)) (mx.map (opA en)) then some .any else none) else slcV st sz g n 0 n (lo.map (opA en)) (hi.map (opA en))
    | .av g N sz' lo0 n => if mx.isSome then (if slc3 n (lo.map (opA en)) (hi.map (opA en)) (mx.map (opA en)) then some .any else none) else if sz' = sz then slcV st sz g N lo0 n (lo.map (opA en)) (hi.map (opA en)) else none
    | _ => none
  | .slcS x lo hi => match opA en x with
    | .sc (.string s) => slcSA s (lo.map (opA en)) (hi.map (opA en))
    | _ => none
  | .ext x i => match opA en x with
    | .tup vs => vs[i]?
    | _ => none
  | .len str x => lenA str (opA en x)
  | .mm mx xs => match xs.map (opA en) with
    | x :: r => mmA mx x r
    | [] => none
  | .isnil neg x => match slen (opA en x) with
    | some (_ + 1) => some (.sc (.bool neg))
    | _ => none
  | .cap x => match opA en x with
    | .sl true xs => some (.sc (.int .i64 (xs.length : Int)))
    | _ => none
  | .lenM x => match opA en x with
    | .mp i => match st[i]? with
      | some (.map _ ents) => some (.sc (.int .i64 (ents.length : Int)))
      | _ => none
    | _ => none
  | .lookup tag z x k ok => match opA en x, keyG tag (opA en k) with
    | .mp i, some key => match st[i]? with
      | some (.map _ ents) => match findK key ents 0 with
        | some (some j) => match ents[j]? with
          | some e => some (if ok then .tup [constA e.val, .sc (.bool true)] else constA e.val)
          | none => none
        | some none => some (if ok then .tup [z, .sc (.bool false)] else z)
        | none => none
      | _ => none
    | _, _ => none
  | .entry x => match opA en x with
    | .ref i 0 => match st[i]? with
      | some (.iter m _ seen last) => match st[m]? with
        | some (.map clk ents) => if clk = last then match seen.getLast? with
          | some b => match ents.find? (fun e => e.born == b) with
            | some e => some (.tup [constA e.key, constA e.val])
            | none => none
          | none => none
          else none
        | _ => none
      | _ => none
    | _ => none
  | _ => none

/-! ### Ranges -/
theorem wrap_range (k : IntKind) (n : Int) : k.min ≤ k.wrap n ∧ k.wrap n ≤ k.max := by
  have h1 : 0 ≤ n % (2 ^ k.bits : Int) := Int.emod_nonneg _ (by cases k <;> decide)
  have h2 : n % (2 ^ k.bits : Int) < 2 ^ k.bits := Int.emod_lt_of_pos _ (by cases k <;> decide)
  generalize hm : n % (2 ^ k.bits : Int) = m at h1 h2
  cases k <;> simp [IntKind.wrap, IntKind.min, IntKind.max, IntKind.bits, IntKind.signed] at hm h1 h2 ⊢ <;> (try split) <;> omega

theorem plain_wrap (k : IntKind) (n : Int) : plainV (.int k (k.wrap n)) = true := by
  have := wrap_range k n
  simp [plainV, this]

theorem min_neg (k : IntKind) : k.min ≤ 0 ∧ 0 ≤ k.max := by cases k <;> simp [IntKind.min, IntKind.max, IntKind.bits, IntKind.signed]

theorem plain_tmod (k : IntKind) (a b : Int) (h : plainV (.int k a) = true) : plainV (.int k (a.tmod b)) = true := by
  simp [plainV] at h ⊢
  have hk := min_neg k
  rcases Int.le_total 0 a with ha | ha
  · have h1 := Int.tmod_nonneg b ha
    have h2 : a.tmod b ≤ a := by
      obtain ⟨n, rfl⟩ := Int.eq_ofNat_of_zero_le ha
      have : (n : Int).tmod b = ((n % b.natAbs : Nat) : Int) := by
        rcases Int.natAbs_eq b with hb | hb
        · rw [hb]; rw [Int.natAbs_natCast]; exact (Int.ofNat_tmod _ _).symm
        · rw [hb, Int.tmod_neg]; rw [Int.natAbs_neg, Int.natAbs_natCast]; exact (Int.ofNat_tmod _ _).symm
      rw [this]
      have := Nat.mod_le n b.natAbs
      omega
    omega
  · obtain ⟨n, hn⟩ := Int.eq_ofNat_of_zero_le (show 0 ≤ -a by omega)
    have ha' : a = -(n : Int) := by omega
    have : a.tmod b = -((n % b.natAbs : Nat) : Int) := by
      rw [ha', Int.neg_tmod]
      congr 1
      rcases Int.natAbs_eq b with hb | hb
      · rw [hb]; rw [Int.natAbs_natCast]; exact (Int.ofNat_tmod _ _).symm
      · rw [hb, Int.tmod_neg]; rw [Int.natAbs_neg, Int.natAbs_natCast]; exact (Int.ofNat_tmod _ _).symm
    rw [this]
    have := Nat.mod_le n b.natAbs
    omega

theorem plain_shr (k : IntKind) (a : Int) (n : Nat) (h : plainV (.int k a) = true) : plainV (.int k (a.fdiv (2 ^ n))) = true := by
  simp [plainV] at h ⊢
  have hk := min_neg k
  have hp : (0 : Int) < 2 ^ n := Int.pow_pos (by omega)
  rw [Int.fdiv_eq_ediv_of_nonneg _ (by omega)]
  rcases Int.le_total 0 a with ha | ha
  · have h1 := Int.ediv_nonneg ha (by omega : (0 : Int) ≤ 2 ^ n)
    have h2 := Int.ediv_le_self (2 ^ n) ha
    omega
  · have h1 : a ≤ a / 2 ^ n := by
      rw [Int.le_ediv_iff_mul_le hp]
      have : (1 : Int) ≤ 2 ^ n := by omega
      have h3 := Int.mul_le_mul_of_nonpos_left ha this
      simpa using h3
    have h2 : a / 2 ^ n ≤ 0 := Int.ediv_le_iff_le_mul hp |>.2 (by omega)
    omega

end Go.AW

/-
  AW, part 5: how an operation of the model is read, and that what is reckoned of it is right.
-/
namespace Go.AW
open Go Go.RowKit
set_option linter.unusedVariables false
set_option linter.unusedSimpArgs false

def tyAgg : TypeDesc → Bool
  | .struct _ | .array _ _ => true
  | _ => false

/-- Where a field of a struct lies. -/
def placeF (P : Program) (fs : Array Field) (i : Nat) : Option (Nat × Nat) := (fs[i]?).bind fun f => (P.info? f.type).map fun s => (f.offset, s.size)
def decParts (pl : Nat → Option (Nat × Nat)) : List (Nat × Operand) → Option (List (Nat × Nat × Operand))
  | [] => some []
  | (i, x) :: r => match pl i, decParts pl r with
    | some (o, s), some ps => some ((o, s, x) :: ps)
    | _, _ => none

/-- Keys of one cell. -/
def flatF (P : Program) (rec : TypeId → Option (List Nat)) : Nat → List Field → Option (List Nat)
  | _, [] => some []
  | off, f :: r => if f.name = "_" ∨ f.offset ≠ off then none else match rec f.type, P.info? f.type with
    | some ls, some i => if i.size = ls.length then match flatF P rec (off + ls.length) r with
      | some ms => some (ls ++ ms)
      | none => none else none
    | _, _ => none
/-- The cells of a type whose values are keys. -/
def flatK (P : Program) : Nat → TypeId → Option (List Nat)
  | 0, _ => none
  | n + 1, t => match P.underlying t with
    | some (.int _) => some [0]
    | some .string => some [1]
    | some .bool => some [2]
    | some (.struct fs) => if P.stoodInHeld t then none else flatF P (flatK P n) 0 fs.toList
    | _ => none
def keyT (P : Program) (t : TypeId) : Option KS := match P.underlying t with
  | some (.int _) => some (.one 0)
  | some .string => some (.one 1)
  | some .bool => some (.one 2)
  | some (.struct _) => (flatK P 5 t).map .agg
  | _ => none

def isNilC : Operand → Bool
  | .const (.slice none 0 0) => true
  | _ => false

/-- How an operation is read. -/
def dec (P : Program) (o : Oper) : AOp := match o.op with
  | .move x | .assign x => .mov x
  | .pick c a b => .pick c a b
  | .alloc t => match (P.info? t).bind (·.zero) with
    | some z => match (constA z).cells? with
      | some cs => .alloc cs
      | none => .raw o
    | none => .raw o
  | .box _ x => .box x
  | .build t parts => match (P.info? t).bind (·.zero), P.underlying t with
    | some z, some (.struct fs) =>
      match (constA z).cells?, decParts (placeF P fs) parts.toList, fs.toList.mapM (fun f => (P.info? f.type).map fun i => (f.offset, i.size)) with
      | some zs, some ps, some _ => .build zs ps
      | _, _, _ => .raw o
    | some z, some (.array _ e) =>
      match (constA z).cells?, P.info? e with
      | some zs, some s => match decParts (fun i => some (i * s.size, s.size)) parts.toList with
        | some ps => .build zs ps
        | none => .raw o
      | _, _ => .raw o
    | _, _ => .raw o
  | .buildSlice t len parts => match P.underlying t with
    | some (.slice e) => match P.info? e with
      | some i => match i.zero with
        | some z => if parts.toList.map (·.1) = List.range len ∧ len * i.size ≤ 2 ^ 24 ∧ 0 < i.size ∧ z.cells.size = i.size ∧ (constA z).cells?.isSome then .mksl e i.size (parts.toList.map (·.2)) else .raw o
        | none => .raw o
      | none => .raw o
    | _ => .raw o
  | .load t x => match P.underlying t, P.info? t with
    | some d, some i => .load (tyAgg d) i.size x
    | _, _ => .raw o
  | .store t x v => match P.info? t with
    | some i => .store i.size x v
    | none => .raw o
  | .nilCheck x => .nilck x
  | .binOp op t x y _ => match P.underlying t with
    | some (.slice e) => if isNilC y then (match op with
      | .eql => .isnil false x
      | .neq => .isnil true x
      | _ => .bin op (.slice e) x y) else .bin op (.slice e) x y
    | some d => .bin op d x y
    | none => .raw o
  | .unOp op _ x => .un op x
  | .convert s d x => match P.underlying s, P.underlying d with
    | some (.int _), some (.int k) => .cvi k x
    | _, _ => .raw o
  | .makeFunc (.func f) first caps => .mkfn f first.toList caps.toList
  | .makeMap t none => .mkmap t
  | .lookup t x k ok => match P.underlying t with
    | some (.map kt et) => match (P.info? et).bind (·.zero) with
      | some z => match keyT P kt with
        | some tag => .lookup tag (constA z) x k ok
        | none => .raw o
      | none => .raw o
    | _ => .raw o
  | .mapUpdate t x k v => match P.underlying t with
    | some (.map kt _) => match keyT P kt with
      | some tag => .mupd tag x k v
      | none => .raw o
    | _ => .raw o
  | .insert t x k v => match P.underlying t with
    | some (.map kt _) => match keyT P kt with
      | some tag => .mupd tag x k v
      | none => .raw o
    | _ => .raw o
  | .mapEntry t x k => match P.underlying t with
    | some (.map kt et) => match (P.info? et).bind (·.zero) with
      | some z => match keyT P kt with
        | some tag => .mentry tag z x k
        | none => .raw o
      | none => .raw o
    | _ => .raw o
  | .entryStore _ x s v => .estore x s v
  | .range t x => match P.underlying t with
    | some (.map _ _) => .range x
    | _ => .raw o
  | .next x false => .next x
  | .entry x => .entry x
  | .fieldAddr t x i => match P.underlying t with
    | some (.struct fs) => match fs[i]? with
      | some f => match P.info? f.type with
        | some s => if s.size = 0 then .raw o else .faddr f.offset x
        | none => .raw o
      | none => .raw o
    | _ => .raw o
  | .field t x i => match P.underlying t with
    | some (.struct fs) => match fs[i]? with
      | some f => match P.underlying f.type, P.info? f.type with
        | some d, some s => .fld (tyAgg d) f.offset s.size x
        | _, _ => .raw o
      | none => .raw o
    | _ => .raw o
  | .indexAddr t x i => match P.underlying t with
    | some (.slice e) => match P.info? e with
      | some s => .iaddr s.size x i
      | none => .raw o
    | some (.array n e) => match P.info? e with
      | some s => .iaddrA n s.size x i
      | none => .raw o
    | _ => .raw o
  | .index t x i => match P.underlying t with
    | some .string => .idxS x i
    | _ => .raw o
  | .slice t x lo hi mx => match P.underlying t with
    | some (.slice e) => match P.info? e with
      | some s => .slc s.size x lo hi mx
      | none => .raw o
    | some .string => if mx.isNone then .slcS x lo hi else .raw o
    | _ => .raw o
  | .extract x i => .ext x i
  | .call c => match c.callee with
    | .value f => .call f c.args.toList
    | .builtin .len => match c.args.toList, c.argTypes.toList with
      | [x], [t] => match P.underlying t with
        | some .string => .len true x
        | some (.slice _) => .len false x
        | some (.map _ _) => .lenM x
        | _ => .raw o
      | _, _ => .raw o
    | .builtin .max => .mm true c.args.toList
    | .builtin .min => .mm false c.args.toList
    | .builtin .cap => match c.args.toList, c.argTypes.toList with
      | [x], [t] => match P.underlying t with
        | some (.slice _) => .cap x
        | _ => .raw o
      | _, _ => .raw o
    | .builtin .delete => match c.args.toList, c.argTypes.toList with
      | [x, k], t :: _ => match P.underlying t with
        | some (.map kt _) => match keyT P kt with
          | some tag => .mdel tag x k
          | none => .raw o
        | _ => .raw o
      | _, _ => .raw o
    | .builtin .clear => match c.args.toList, c.argTypes.toList with
      | [x], [t] => match P.underlying t with
        | some (.slice e) => match P.info? e with
          | some i => match i.zero with
            | some z => if 0 < i.size ∧ z.cells.size = i.size ∧ (constA z).cells?.isSome then .clear e i.size (constA z) x else .raw o
            | none => .raw o
          | none => .raw o
        | _ => .raw o
      | _, _ => .raw o
    | .builtin .append => match c.args.toList, c.argTypes.toList with
      | [x, y], [t, t'] => if t = t' then match P.underlying t with
        | some (.slice e) => match P.info? e with
          | some i => match i.zero with
            | some z => if 0 < i.size ∧ z.cells.size = i.size then .app e i.size i.bytes x y else .raw o
            | none => .raw o
          | none => .raw o
        | _ => .raw o else .raw o
      | _, _ => .raw o
    | _ => .raw o
  | _ => .raw o

section
variable {P : Program} {o : Oper} {c : Cx} {a : Act} {en : Env} {N : Nat} {x : AV}

theorem run_under {t : TypeId} {d : TypeDesc} {w : World} (h : P.underlying t = some d) : (underlying t).run P w = .ok d w := by
  simp [underlying, Sem.run_bind, h]

theorem run_tinfo {t : TypeId} {i : TypeInfo} {w : World} (h : P.info? t = some i) : (typeInfo t).run P w = .ok i w := by
  simp [typeInfo, Sem.run_bind, h]

theorem run_size {t : TypeId} {i : TypeInfo} {w : World} (h : P.info? t = some i) : (sizeOf t).run P w = .ok i.size w := by
  simp [sizeOf, Sem.run_bind, run_tinfo h]

theorem run_agg {t : TypeId} {d : TypeDesc} {w : World} (h : P.underlying t = some d) : (isAgg t).run P w = .ok (tyAgg d) w := by
  simp [isAgg, Sem.run_bind, run_under h]
  cases d <;> rfl

theorem VR.one {c : Cx} {x : AV} {v : Value} (h : VR c x v) (h1 : ∀ cs, x ≠ .agg cs) (h2 : ∀ cs, x ≠ .tup cs) (h3 : x ≠ .any) : v.oneCell' = true := by
  cases h with
  | any => exact absurd rfl h3
  | @sc v hp => cases v <;> first | rfl | simp [plainV] at hp
  | agg => exact absurd rfl (h1 _)
  | tup => exact absurd rfl (h2 _)
  | av _ _ hs => obtain ⟨a, cp, rfl, _⟩ := hs; rfl
  | _ => rfl

/-- The cells of a value that can be stored. -/
theorem VR.cells {c : Cx} {x : AV} {v : Value} {cs : List AV} (h : VR c x v) (hc : x.cells? = some cs) :
    v.cells.size = cs.length ∧ (∀ u ∈ v.cells, u.oneCell' = true) ∧ ∀ (i : Nat) y u, cs[i]? = some y → v.cells[i]? = some u → VR c y u := by
  have gen : (∀ cs, x ≠ .agg cs) → (∀ cs, x ≠ .tup cs) → x ≠ .any → cs = [x] → v.cells.size = cs.length ∧ (∀ u ∈ v.cells, u.oneCell' = true) ∧ ∀ (i : Nat) y u, cs[i]? = some y → v.cells[i]? = some u → VR c y u := by
    intro h1 h2 h3 he
    have ho := h.one h1 h2 h3
    have hv : v.cells = #[v] := by cases v <;> first | rfl | simp [Value.oneCell'] at ho
    subst he
    rw [hv]
    refine ⟨rfl, fun u hu => by simp at hu; exact hu ▸ ho, fun i y u hy hu => ?_⟩
    cases i with
    | zero => simp at hy hu; subst hy; subst hu; exact h
    | succ i => simp at hy
  cases x with
  | agg cs' =>
    simp only [AV.cells?, Option.some.injEq] at hc
    subst hc
    cases h with
    | agg hl h1 hh => exact ⟨hl.symm, h1, hh⟩
  | any => simp [AV.cells?] at hc
  | tup _ => simp [AV.cells?] at hc
  | _ => exact gen (by simp) (by simp) (by simp) (by simpa [AV.cells?] using hc.symm)

theorem VR.part {c : Cx} {agg : Bool} {off n : Nat} {cs : List AV} {vs : Array Value} {x : AV} (hl : cs.length = vs.size) (h1 : ∀ v ∈ vs, v.oneCell' = true)
    (h : ∀ (i : Nat) x v, cs[i]? = some x → vs[i]? = some v → VR c x v) (hp : partA agg off n cs = some x) :
    (agg = true → off + n ≤ vs.size ∧ VR c x (.agg (vs.extract off (off + n)))) ∧ (agg = false → ∃ v, vs[off]? = some v ∧ VR c x v) := by
  unfold partA at hp
  constructor
  · rintro rfl
    simp only [if_true] at hp
    split at hp
    · rename_i hle
      injection hp with hp; subst hp
      refine ⟨by omega, .agg (by simp; omega) (fun v hv => ?_) (fun i y v hy hv => ?_)⟩
      · obtain ⟨i, hi, rfl⟩ := Array.getElem_of_mem hv
        simp at hi ⊢
        exact h1 _ (Array.getElem_mem _)
      · simp only [List.getElem?_take, List.getElem?_drop] at hy
        split at hy
        · refine h (off + i) y v hy ?_
          simp only [Array.getElem?_extract] at hv
          split at hv
          · exact hv
          · cases hv
        · cases hy
    · cases hp
  · rintro rfl
    simp only [Bool.false_eq_true, if_false] at hp
    have hlt : off < vs.size := by rw [← hl]; exact (List.getElem?_eq_some_iff.1 hp).1
    exact ⟨vs[off], Array.getElem?_eq_getElem hlt, h off x _ hp (Array.getElem?_eq_getElem hlt)⟩

end
end Go.AW
