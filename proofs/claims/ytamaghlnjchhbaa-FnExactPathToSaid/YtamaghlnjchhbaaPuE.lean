/-
  Own work. The translation of code: regions, loops with their heads, joins, functions.
-/
import Derived.Test.YtamaghlnjchhbaaPuD
namespace Go.Pu
open Go Go.RowKit

/-! ### A jump: the present state met with a head -/
def SC.roots : SC → SC → List (Nat × Nat)
  | .h r, .h r' => [(r', r)]
  | .hn r _ _ _, .hn r' _ _ _ => [(r', r)]
  | .s (some r) _, .s (some r') _ => [(r', r)]
  | _, _ => []
def SV.roots : SV → SV → List (Nat × Nat)
  | .c x, .c y => x.roots y
  | .agg xs, .agg ys => (xs.zip ys).flatMap fun p => p.1.roots p.2
  | .ad r _ _ _, .ad r' _ _ _ => [(r', r)]
  | .ra (some r) _, .ra (some r') _ => [(r', r)]
  | .tup rs, .tup rs' => (rs.zip rs').flatMap fun p => (p.1.2.zip p.2.2).flatMap fun p => p.1.roots p.2
  | _, _ => []
def addPair (l : List (Nat × Nat)) (p : Nat × Nat) : List (Nat × Nat) := if l.contains p then l else l ++ [p]
def rootMap1 (H st : St) : List (Nat × Nat) := ((H.slots.zip st.slots).flatMap fun p => p.1.roots p.2).foldl addPair (st.fix.map fun r => (r, r))
def rootMapBox (H st : St) (σ : List (Nat × Nat)) : List (Nat × Nat) := (σ.flatMap fun p => match H.rk p.2, st.rk p.1 with
  | .box _ cs, .box _ ds => (cs.zip ds).flatMap fun q => q.1.roots q.2
  | .list _ _ _ _ (some (some r)), .list _ _ _ _ (some (some r')) => [(r', r)]
  | _, _ => []).foldl addPair σ
def rootMap (H st : St) : List (Nat × Nat) := rootMapBox H st (rootMapBox H st (rootMap1 H st))
def mapR (σ : List (Nat × Nat)) (r : Nat) : Option Nat := match σ with
  | [] => none
  | p :: σ => bif Nat.beq p.1 r then some p.2 else mapR σ r
def unmapR (σ : List (Nat × Nat)) (r : Nat) : Option Nat := match σ with
  | [] => none
  | p :: σ => bif Nat.beq p.2 r then some p.1 else unmapR σ r
mutual
def SC.rel (σ : List (Nat × Nat)) : SC → SC
  | .s (some r) x => match mapR σ r with | some r' => .s (some r') x | none => .gone
  | .h r => match mapR σ r with | some r' => .h r' | none => .gone
  | .hn r i k x => match mapR σ r with | some r' => .hn r' i k x | none => .gone
  | .hs r lo hi x => match mapR σ r with | some r' => .hs r' lo hi x | none => .gone
  | .rp (some r) cells => match mapR σ r with | some r' => .rp (some r') (relL σ cells) | none => .gone
  | .rp none cells => .rp none (relL σ cells)
  | .fn f caps => .fn f (relL σ caps)
  | c => c
def relL (σ : List (Nat × Nat)) : List SC → List SC
  | [] => []
  | c :: cs => c.rel σ :: relL σ cs
end
def SV.rel (σ : List (Nat × Nat)) : SV → SV
  | .c x => .c (x.rel σ)
  | .agg xs => .agg (relL σ xs)
  | .ad r e i k => match mapR σ r with | some r' => .ad r' e i k | none => .junk
  | .ra (some r) cells => match mapR σ r with | some r' => .ra (some r') (relL σ cells) | none => .junk
  | .ra none cells => .ra none (relL σ cells)
  | .tup rs => .tup (rs.map fun x => (x.1, relL σ x.2))
  | .und => .und
  | .junk => .junk
def RK.rel (σ : List (Nat × Nat)) : RK → RK
  | .box e cells => .box e (relL σ cells)
  | .list e a v nl (some (some r)) => match mapR σ r with | some r' => .list e a v nl (some (some r')) | none => .dead
  | .listH _ _ _ _ _ _ => .dead
  | k => k
def St.rel (st : St) (σ : List (Nat × Nat)) (n : Nat) : St :=
  { st with slots := st.slots.map (SV.rel σ), roots := (List.range n).map fun r => match unmapR σ r with | some r' => (st.rk r').rel σ | none => .dead }
/-- Nil slices that the head takes for owned lists. -/
inductive Ado where
  | s (i : Nat) (e : TypeId) (a : Ty)
  | c (r j : Nat) (e : TypeId) (a : Ty)
  | g (i j : Nat) (e : TypeId) (a : Ty)
def SC.isNil : SC → Bool
  | .nil => true
  | _ => false
def adoptOne (st : St) : Ado → St
  | .s i e a => if st.rok && (st.slot i).isNil then (st.push (.list e a (.nil (.sl e a)) true none)).put i (.c (.h st.nr)) else st
  | .c r j e a => match st.rk r with
    | .box e0 cs => if st.rok && (cs.getD j .gone).isNil then (st.push (.list e a (.nil (.sl e a)) true none)).setR r (.box e0 (cs.set j (.h st.nr))) else st
    | _ => st
  | .g i j e a => match st.slot i with
    | .agg cs => if st.rok && (cs.getD j .gone).isNil then (st.push (.list e a (.nil (.sl e a)) true none)).put i (.agg (cs.set j (.h st.nr))) else st
    | _ => st
def adoptAll : List Ado → St → St
  | [], st => st
  | x :: l, st => adoptAll l (adoptOne st x)
def planCells (H : St) (mk : Nat → TypeId → Ty → Ado) : List SC → List SC → Nat → List Ado
  | .h r :: hs, .nil :: ss, i => match H.rk r with
    | .list e a _ _ none => mk i e a :: planCells H mk hs ss (i + 1)
    | _ => planCells H mk hs ss (i + 1)
  | _ :: hs, _ :: ss, i => planCells H mk hs ss (i + 1)
  | _, _, _ => []
def planSlots (H : St) : List SV → List SV → Nat → List Ado
  | .c h :: hs, .c s :: ss, i => planCells H (fun _ => .s i) [h] [s] 0 ++ planSlots H hs ss (i + 1)
  | .agg h :: hs, .agg s :: ss, i => planCells H (.g i) h s 0 ++ planSlots H hs ss (i + 1)
  | _ :: hs, _ :: ss, i => planSlots H hs ss (i + 1)
  | _, _, _ => []
def adoptPlan (H st : St) : List Ado := planSlots H H.slots st.slots 0 ++ (rootMap1 H st).flatMap fun p => match H.rk p.2, st.rk p.1 with
  | .box _ hs, .box _ cs => planCells H (.c p.1) hs cs 0
  | _, _ => []

/-- What the head's parameters (environment place n) are bound to: path and atom. -/
abbrev Binds := List (List Bool × At)
def Ty.leaf : Ty → Bool
  | .int _ => true
  | .bool => true
  | .sl _ _ => true
  | .mp => true
  | _ => false
def At.meet (n : Nat) (ts : List Ty) (ht : Ty) (x y : At) : Option Binds := match x with
  | .r ⟨m, p⟩ => if m = n then (match y.ty ts with
      | some u => if ht.proj p = some u ∧ u.leaf then some [(p, y)] else none
      | none => none) else if m < n ∧ At.r ⟨m, p⟩ = y then some [] else none
  | x => if x = y then some [] else none
def SC.meet (n : Nat) (ts : List Ty) (ht : Ty) : SC → SC → Option Binds
  | .gone, _ => some []
  | .v x, .v y => x.meet n ts ht y
  | .s rg x, .s rg' y => if rg = rg' then x.meet n ts ht y else none
  | x, y => if x.wf n && x.beq y then some [] else none
def meetL (n : Nat) (ts : List Ty) (ht : Ty) : List SC → List SC → Option Binds
  | [], [] => some []
  | x :: xs, y :: ys => match x.meet n ts ht y, meetL n ts ht xs ys with
    | some a, some b => some (a ++ b)
    | _, _ => none
  | _, _ => none
def meetTup (n : Nat) (ts : List Ty) (ht : Ty) : List (Bool × List SC) → List (Bool × List SC) → Option Binds
  | [], [] => some []
  | x :: xs, y :: ys => if x.1 = y.1 then match meetL n ts ht x.2 y.2, meetTup n ts ht xs ys with
    | some a, some b => some (a ++ b)
    | _, _ => none else none
  | _, _ => none
def SV.meet (n : Nat) (ts : List Ty) (ht : Ty) : SV → SV → Option Binds
  | .junk, _ => some []
  | .c x, .c y => x.meet n ts ht y
  | .agg xs, .agg ys => meetL n ts ht xs ys
  | .ad r e i k, .ad r' e' i' k' => if r = r' ∧ e = e' ∧ i = i' ∧ k = k' ∧ i.lt n then some [] else none
  | .ra rg cs, .ra rg' cs' => if rg = rg' ∧ beqL cs cs' ∧ wfL n cs then some [] else none
  | .und, .und => some []
  | .tup rs, .tup rs' => meetTup n ts ht rs rs'
  | _, _ => none
def RK.meet (n : Nat) (ts : List Ty) (ht : Ty) : RK → RK → Option Binds
  | .dead, _ => some []
  | .box e xs, .box e' ys => if e = e' then meetL n ts ht xs ys else none
  | .list e a v nl inner, .list e' a' v' nl' inner' =>
    if e = e' ∧ a = a' ∧ (nl = true → nl' = true) ∧ inner = inner' then v.meet n ts ht v' else none
  | .mp v, .mp v' => v.meet n ts ht v'
  | _, _ => none
def meetSVs (n : Nat) (ts : List Ty) (ht : Ty) : List SV → List SV → Option Binds
  | [], [] => some []
  | x :: xs, y :: ys => match x.meet n ts ht y, meetSVs n ts ht xs ys with
    | some a, some b => some (a ++ b)
    | _, _ => none
  | _, _ => none
def meetRKs (n : Nat) (ts : List Ty) (ht : Ty) : List RK → List RK → Option Binds
  | [], [] => some []
  | x :: xs, y :: ys => match x.meet n ts ht y, meetRKs n ts ht xs ys with
    | some a, some b => some (a ++ b)
    | _, _ => none
  | _, _ => none
def findB (p : List Bool) : Binds → Option At
  | [] => none
  | b :: bs => if b.1 = p then some b.2 else findB p bs
def bindAll (bs : Binds) : List (List Bool) → Option (List At)
  | [] => some []
  | p :: ps => match findB p bs, bindAll bs ps with
    | some x, some xs => some (x :: xs)
    | _, _ => none
def bindOk (ts : List Ty) (t : Ty) (bs : Binds) (x : List Bool × At) : Bool := decide (findB x.1 bs = some x.2) && match x.2.ty ts with
  | some u => decide (t.proj x.1 = some u) && u.leaf
  | none => false
/-- The atoms that make the head's parameter out of the present state. -/
def jump (H st : St) : M (Ty × List At) :=
  match H.ts.getLast? with
  | none => .error "jump a head without parameter"
  | some t =>
    let n := H.ts.length - 1
    if ¬ (H.ts.take n = st.ts.take n ∧ H.fix = st.fix ∧ n ≤ st.ts.length) then .error "jump types" else
    let st1 := adoptAll (adoptPlan H st) st
    let σ := rootMap H st1
    if ¬ (nodup (σ.map (·.1)) ∧ nodup (σ.map (·.2)) ∧ st1.fix.all (fun r => decide (mapR σ r = some r))) then .error "jump roots" else
    let st2 := st1.rel σ H.nr
    match meetSVs n st.ts t H.slots st2.slots, meetRKs n st.ts t H.roots st2.roots with
    | some a, some b =>
      if ¬ ((a ++ b).all fun x => bindOk st.ts t (a ++ b) x) then .error "jump a parameter bound twice" else
      match bindAll (a ++ b) (pathsOf [] t) with
      | some xs => .ok (t, xs)
      | none => .error "jump an unbound parameter"
    | none, _ => .error "jump slots"
    | _, none => .error "jump roots"

/-! ### Code -/
structure Ann where
  N : Nat
  pm : List (Nat × List Nat)
  dirty : List (Nat × List (Nat × Bool))
  heads : List (Nat × Ty × List (Nat × SV) × List RK)
  joins : List (Nat × Ty × List (Nat × SV) × List RK)
  seqs : List (Nat × Ty × List (Nat × SV) × List RK)
  deriving Repr, Inhabited
def findA {α : Type} (l : List (Nat × α)) (i : Nat) : Option α := match l with
  | [] => none
  | x :: l => bif Nat.beq x.1 i then some x.2 else findA l i
def setAll : List (Nat × SV) → List SV → List SV
  | [], l => l
  | x :: xs, l => setAll xs (l.set x.1 x.2)
def headSt (st : St) (h : Ty × List (Nat × SV) × List RK) : St := ⟨st.ts ++ [h.1], setAll h.2.1 (List.replicate st.slots.length .junk), h.2.2, st.fix, []⟩

def firstReg : Code → Option Nat
  | .region id _ _ => some id
  | .seq a b => match firstReg a with | some r => some r | none => firstReg b
  | .cond _ a b => match firstReg a with | some r => some r | none => firstReg b
  | .block _ b => firstReg b
  | .loop b => firstReg b
  | _ => none
/-- What the guard says: shut in or out, or the slot and atom on which it hangs. -/
inductive Gd where
  | yes | no | ask (t : Nat) (x : At)
def guardOf (ops : Array Oper) (st : St) : Option (Nat × Bool) → M Gd
  | none => .ok .yes
  | some (j, want) => match (ops[j]?).bind (·.dst) with
    | some t => match st.slot t with
      | .c (.v (.bool b)) => .ok (if b == want then .yes else .no)
      | .und => .ok .no
      | .c (.v (.r q)) => do if (← st.ty (.r q)) = .bool then .ok (.ask t (.r q)) else .error "guard type"
      | _ => .error "guard"
    | none => .error "guard no slot"
def binds : List (Ex × Ty) → Stm → Stm
  | [], s => s
  | e :: es, s => .bind e.1 (binds es s)
def dstOk (N : Nat) (o : Oper) : Bool := match o.dst with
  | some d => Nat.blt d N
  | none => true
def cStep (P : Program) (ss : List Sig) (N : Nat) (st : St) (o : Oper) (k : St → M Stm) : M Stm := do
  if !(st.wf && st.rok && dstOk N o) then .error "step state" else
  let x ← stepOp P ss st o
  let s ← k x.st
  .ok (binds x.es s)
/-- May the operation come ahead of a read that does not wait for it? -/
def nrOk (ss : List Sig) (st : St) (o : Oper) : Bool := match o.op with
  | .store .. => false
  | .mapUpdate .. => false
  | .call c => match c.callee with
    | .builtin .append => match (c.args.toList.head?).map st.val with
      | some (.ok sv) => sv.isNil
      | _ => false
    | .builtin _ => true
    | .value x => match st.val x with
      | .ok (.c (.fn f _)) => match findS st ss f c.args.toList with
        | some s => s.flags.isEmpty
        | none => false
      | _ => false
    | _ => false
  | _ => true
/-- An operation whose guard is known. -/
def cGd (P : Program) (ss : List Sig) (N : Nat) (ops : Array Oper) (o : Oper) (nr : Bool) (st : St) (k : St → M Stm) : M Stm := do
  match ← guardOf ops st o.guard with
  | .yes => if nr && !nrOk ss st o then .error "order a write ahead of a read" else cStep P ss N st o k
  | .no => match o.dst with
    | some d => if Nat.blt d N then k (st.put d .und) else .error "guard slot"
    | none => .error "guard a store"
  | .ask _ _ => .error "guard twice"
def cOp (P : Program) (ss : List Sig) (N : Nat) (ops : Array Oper) (o : Oper) (nr : Bool) (st : St) (k : St → M Stm) : M Stm := do
  match ← guardOf ops st o.guard with
  | .ask t x => do
    let s1 ← cGd P ss N ops o nr (st.put t (.c (.v (.bool true)))) k
    let s2 ← cGd P ss N ops o nr (st.put t (.c (.v (.bool false)))) k
    .ok (.ite x s1 s2)
  | _ => cGd P ss N ops o nr st k
def cOps (P : Program) (ss : List Sig) (N : Nat) (ops : Array Oper) : List (Oper × Bool) → St → (St → M Stm) → M Stm
  | [], st, k => k st
  | x :: rest, st, k => cOp P ss N ops x.1 x.2 st (fun st' => cOps P ss N ops rest st' k)
def cRegion (P : Program) (ss : List Sig) (an : Ann) (id : Nat) (ops : Array Oper) (draw : Bool) (st : St) (k : St → M Stm) : M Stm :=
  if draw then match findA an.pm id with
    | some l => if orderOK ops l then cOps P ss an.N ops (sched true ops l) st k else .error "order"
    | none => .error "no order"
  else cOps P ss an.N ops (sched false ops (List.range ops.size)) st k
/-- Within a join: an end of the part leads to the join's head, all else lies beyond. -/
def toJoin (J : St) (k : Exit → St → M Stm) : Exit → St → M Stm
  | .normal, st => do
    let x ← jump J st
    .ok (.next x.1 x.2)
  | e, st => do
    let s ← k e st
    .ok (.lift s)
def endLoop (id : Nat) (H : St) (k : Exit → St → M Stm) : Exit → St → M Stm
  | .normal, st => do
    let x ← jump H st
    .ok (.next x.1 x.2)
  | .exit id', st => do
    let s ← k (if id' = id then .normal else .exit id') st
    .ok (.lift s)
  | e, st => do
    let s ← k e st
    .ok (.lift s)
def endBlock (id : Nat) (k : Exit → St → M Stm) : Exit → St → M Stm
  | .exit id', st => k (if id' = id then .normal else .exit id') st
  | e, st => k e st
def thenK (f : St → M Stm) (k : Exit → St → M Stm) : Exit → St → M Stm
  | .normal, st => f st
  | e, st => k e st
def joinAt (an : Ann) (b : Code) : Option (Ty × List (Nat × SV) × List RK) := match firstReg b with | some r => findA an.seqs r | none => none
def cLoop (an : Ann) (id : Nat) (rec : St → (Exit → St → M Stm) → M Stm) (st : St) (k : Exit → St → M Stm) : M Stm := match findA an.heads id with
  | some h => do
    let x ← jump (headSt st h) st
    let s ← rec (headSt st h) (endLoop id (headSt st h) k)
    .ok (.loop h.1 x.2 s)
  | none => .error "no head of loop"
def cJoin (j : Option (Ty × List (Nat × SV) × List RK)) (st : St) (f : (Exit → St → M Stm) → M Stm) (g : St → M Stm) (k : Exit → St → M Stm) : M Stm := match j with
  | some j => do
    let s ← f (toJoin (headSt st j) k)
    let s' ← g (headSt st j)
    .ok (.join j.1 s s')
  | none => f (thenK g k)
def cCode (P : Program) (ss : List Sig) (an : Ann) : Code → St → (Exit → St → M Stm) → M Stm
  | .skip, st, k => k .normal st
  | .exit id, st, k => k (.exit id) st
  | .ret, st, k => k .ret st
  | .region id ops draw, st, k => cRegion P ss an id ops draw st (k .normal)
  | .seq a b, st, k => cJoin (joinAt an b) st (fun k => cCode P ss an a st k) (fun st => cCode P ss an b st k) k
  | .cond c a b, st, k => do
    match ← st.boolOf c with
    | .bool true => cCode P ss an a st k
    | .bool false => cCode P ss an b st k
    | x => do
      let s1 ← cCode P ss an a st k
      let s2 ← cCode P ss an b st k
      .ok (.ite x s1 s2)
  | .block id (.loop b), st, k => cJoin (findA an.joins id) st (fun k => cLoop an id (fun st k => cCode P ss an b st k) st k) (k .normal) k
  | .block id c, st, k => cJoin (findA an.joins id) st (fun k => cCode P ss an c st (endBlock id k)) (k .normal) k
  | _, _, _ => .error "code"

/-! ### Functions -/
def fixed : Nat → List Par → List Nat
  | _, [] => []
  | r, p :: ps => (match p with | .own _ t true => List.range' r t.sls | _ => []) ++ fixed (r + p.nroots) ps
def initSt (N : Nat) (s : Sig) : St := { preSt s with slots := (preSt s).slots ++ List.replicate (N - (preSt s).slots.length) .und, fix := fixed 0 s.ps }
/-- The results. -/
def resOne (P : Program) (st : St) : ResultVar → M (Bool × List SC)
  | .tmp t => match st.slot t with
    | .c x => .ok (false, [x])
    | .agg xs => .ok (true, xs)
    | _ => .error "result slot"
  | .cell t ty => match st.slot t with
    | .c (.h r) => match st.rk r with
      | .box _ cells => do
        let v ← loadCells' P ty cells
        match v with
        | .c x => .ok (false, [x])
        | .agg xs => .ok (true, xs)
        | _ => .error "result load"
      | _ => .error "result cell"
    | _ => .error "result cell"
def resAll (P : Program) (st : St) : List ResultVar → M (List (Bool × List SC))
  | [] => .ok []
  | v :: vs => do
    let x ← resOne P st v
    let xs ← resAll P st vs
    .ok (x :: xs)
/-- One result, or a tuple. -/
def resPut : List (Bool × List SC) → SV
  | [(false, [c])] => .c c
  | [(true, cs)] => .agg cs
  | cs => .tup cs
def postHead (s : Sig) : St := { postSt s with fix := fixed 0 s.ps }
def cFin (P : Program) (fn : Func) (s : Sig) (st : St) : M Stm := do
  let cs ← resAll P st fn.results.toList
  if cs.isEmpty then .error "no results" else
  let x ← jump (postHead s) { st with slots := [resPut cs] }
  .ok (.ret x.1 x.2)
def cFunc (P : Program) (ss : List Sig) (an : Ann) (s : Sig) : M Stm :=
  match P.funcs[s.f]? with
  | none => .error "function"
  | some fn => match fn.body with
    | none => .error "body"
    | some c =>
      if ¬ (an.N = fn.ntmps ∧ s.ps.length ≤ fn.ntmps) then .error "parameters" else
      cCode P ss an c (initSt fn.ntmps s) fun e st => match e with
        | .normal | .ret => cFin P fn s st
        | _ => .error "exit"
end Go.Pu
