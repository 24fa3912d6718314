/- The manager, in plain terms. -/
import Derived.Test.YtnakafmlenngnaaAny
namespace Go.Proofs.Ytnakafmlenngnaa.Qm
open Go.Proofs.Ytnakafmlenngnaa.Wi

/-- A recipient: where it goes; 0 settled, 1 queued, 2 flying, 3 deferred. -/
structure Rc where
  dest : ByteArray
  st : Nat
structure Ml where
  id : ByteArray
  came : Int
  rs : List Rc
  waits : Bool
  due : Int
/-- A destination: its window's size, credit and flight; the time of its revival. -/
structure Ds where
  name : ByteArray
  s : Nat
  c : Nat
  f : Nat
  rev : Int
structure Jb where
  id : ByteArray
  dest : ByteArray
  rs : List Nat
structure Lm where
  active : Int
  ini : Nat
  lim : Nat
  minb : Int
  maxb : Int
  life : Int
structure Qs where
  lm : Lm
  ms : List Ml
  ds : List Ds
  turn : Nat
  jobs : List Jb

def Lm.Ok (l : Lm) : Prop := 1 ≤ l.active ∧ l.active ≤ 100 ∧ 1 ≤ l.ini ∧ l.ini ≤ l.lim ∧ l.lim ≤ 1000 ∧ 1 ≤ l.minb ∧ l.minb ≤ l.maxb ∧ l.maxb ≤ 1000000 ∧ 0 ≤ l.life ∧ l.life ≤ 1000000000

def isT (n : Int) : Bool := decide (0 ≤ n) && decide (n ≤ 1000000000)

/-- Has a message a recipient in one of some states? -/
def hasIn (l : List Nat) (rs : List Rc) : Bool := rs.any fun r => decide (r.st ∈ l)
def gone (m : Ml) : Bool := !(m.waits || hasIn [1, 2] m.rs) && !hasIn [3] m.rs
def back (lm : Lm) (now came : Int) : Int := max lm.minb (min lm.maxb (now - came))
def wait (lm : Lm) (now : Int) (m : Ml) : Ml :=
  if m.waits || hasIn [1, 2] m.rs then m else if hasIn [3] m.rs then { m with waits := true, due := min 1000000000 (now + back lm now m.came) } else m
def endsM (lm : Lm) (now : Int) (ms : List Ml) : List Ml := (ms.filter fun m => !gone m).map (wait lm now)

def mIdx (ms : List Ml) (id : ByteArray) : Nat := ms.findIdx fun m => decide (m.id = id)
def dIdx (ds : List Ds) (n : ByteArray) : Nat := ds.findIdx fun d => decide (d.name = n)
def mkD (lm : Lm) (ds : List Ds) (n : ByteArray) : List Ds := if dIdx ds n < ds.length then ds else ds ++ [⟨n, lm.ini, 0, 0, 0⟩]
def revD (lm : Lm) (d : Ds) : Ds := { d with s := revS lm.ini d.s, c := revC d.s d.c }
def shut (d : Ds) (now : Int) : Bool := decide (d.s = 0) && decide (now < d.rev)
def queueD (lm : Lm) (ds : List Ds) (n : ByteArray) (now : Int) : List Ds × Nat :=
  match (mkD lm ds n)[dIdx ds n]? with
  | none => (mkD lm ds n, 0)
  | some d => if shut d now then (mkD lm ds n, 3) else ((mkD lm ds n).set (dIdx ds n) (revD lm d), 1)

def addTo (lm : Lm) (now : Int) (x : List Ds × List Rc) (d : ByteArray) : List Ds × List Rc :=
  if d.size = 0 then (x.1, x.2 ++ [⟨d, 0⟩]) else ((queueD lm x.1 d now).1, x.2 ++ [⟨d, (queueD lm x.1 d now).2⟩])
def inHand (ms : List Ml) : Nat := (ms.filter fun m => !m.waits).length
def full (q : Qs) : Bool := decide (q.lm.active ≤ inHand q.ms)
def addOk (id : ByteArray) (came : Int) (dests : List ByteArray) (now : Int) : Bool :=
  decide (1 ≤ id.size) && decide (id.size ≤ 32) && isT came && isT now && decide (1 ≤ dests.length) && decide (dests.length ≤ 200) && !(dests.any fun s => decide (300 < s.size)) && (dests.any fun s => decide (s.size ≠ 0))
def add (q : Qs) (id : ByteArray) (came : Int) (dests : List ByteArray) (now : Int) : Int × Qs :=
  if !addOk id came dests now then (1, q) else if mIdx q.ms id < q.ms.length then (220, q) else if full q then (221, q) else
    (0, { q with ds := (dests.foldl (addTo q.lm now) (q.ds, [])).1, ms := endsM q.lm now (q.ms ++ [⟨id, came, (dests.foldl (addTo q.lm now) (q.ds, [])).2, false, 0⟩]) })

def goes (n : ByteArray) (r : Rc) : Bool := decide (r.st = 1) && decide (r.dest = n)
def serves (n : ByteArray) (m : Ml) : Bool := !m.waits && m.rs.any (goes n)
def sIdx (ms : List Ml) (n : ByteArray) : Nat := ms.findIdx (serves n)
def takeTo (n : ByteArray) (x : List Rc × List Nat) (r : Rc) : List Rc × List Nat :=
  if goes n r && decide (x.2.length < 50) then (x.1 ++ [{ r with st := 2 }], x.2 ++ [x.1.length]) else (x.1 ++ [r], x.2)
def spot (q : Qs) (k : Nat) : Nat := (q.turn + k) % q.ds.length
def hit (q : Qs) (k : Nat) : Bool :=
  match q.ds[spot q k]? with
  | none => false
  | some d => decide (sIdx q.ms d.name < q.ms.length) && decide (d.f < d.s)
def turnsTo (q : Qs) : Nat := (List.range q.ds.length).findIdx (hit q)
/-- A delivery of message m, at a, to the destination d, at i. -/
def begin_ (q : Qs) (i : Nat) (d : Ds) (a : Nat) (m : Ml) : Jb × Qs :=
  (⟨m.id, d.name, (m.rs.foldl (takeTo d.name) ([], [])).2⟩,
    { q with turn := (i + 1) % q.ds.length, ds := q.ds.set i { d with f := d.f + 1 }, ms := q.ms.set a { m with rs := (m.rs.foldl (takeTo d.name) ([], [])).1 }, jobs := q.jobs ++ [⟨m.id, d.name, (m.rs.foldl (takeTo d.name) ([], [])).2⟩] })
def next (q : Qs) : Option (Jb × Qs) :=
  match q.ds[spot q (turnsTo q)]? with
  | none => none
  | some d => if turnsTo q < q.ds.length then match q.ms[sIdx q.ms d.name]? with
    | none => none
    | some m => some (begin_ q (spot q (turnsTo q)) d (sIdx q.ms d.name) m) else none

def jIdx (l : List Jb) (j : Jb) : Nat := l.findIdx fun x => decide (x.id = j.id) && decide (x.dest = j.dest) && decide (x.rs = j.rs)
def setSt (rs : List Rc) (r s : Nat) : List Rc := rs.modify r fun x => { x with st := s }
def settle (rs : List Rc) (x : Nat × Int) : List Rc := setSt rs x.1 (if x.2 = 1 then 3 else 0)
def offR (n : ByteArray) (r : Rc) : Rc := if goes n r then { r with st := 3 } else r
def offM (n : ByteArray) (m : Ml) : Ml := { m with rs := m.rs.map (offR n) }
def doneOk (j : Jb) (res : List Int) (now : Int) : Bool := isT now && decide (res.length = j.rs.length) && !(res.any fun n => decide (n < 1) || decide (3 < n))
def doneD (lm : Lm) (g : Bool) (d : Ds) : Ds := { d with s := doneS g lm.lim d.s d.c d.f, c := doneC g d.s d.c d.f, f := d.f - 1 }
def doneAt (q : Qs) (a b : Nat) (m : Ml) (j : Jb) (res : List Int) (g : Bool) (now : Int) (d : Ds) : Qs :=
  if (doneD q.lm g d).s = 0 then
    { q with jobs := q.jobs.eraseIdx b, ds := (mkD q.lm q.ds j.dest).set (dIdx q.ds j.dest) { doneD q.lm g d with rev := now + q.lm.minb }, ms := endsM q.lm now ((q.ms.set a { m with rs := (j.rs.zip res).foldl settle m.rs }).map (offM d.name)) }
  else { q with jobs := q.jobs.eraseIdx b, ds := (mkD q.lm q.ds j.dest).set (dIdx q.ds j.dest) (doneD q.lm g d), ms := endsM q.lm now (q.ms.set a { m with rs := (j.rs.zip res).foldl settle m.rs }) }
def done (q : Qs) (j : Jb) (res : List Int) (g : Bool) (now : Int) : Int × Qs :=
  if !doneOk j res now then (1, q) else
    match q.ms[mIdx q.ms j.id]?, (mkD q.lm q.ds j.dest)[dIdx q.ds j.dest]? with
    | some m, some d => if jIdx q.jobs j < q.jobs.length then (0, doneAt q (mIdx q.ms j.id) (jIdx q.jobs j) m j res g now d) else (222, q)
    | _, _ => (222, q)

def againTo (lm : Lm) (now : Int) (x : List Ds × List Rc) (r : Rc) : List Ds × List Rc :=
  if r.st = 3 then ((queueD lm x.1 r.dest now).1, x.2 ++ [{ r with st := (queueD lm x.1 r.dest now).2 }]) else (x.1, x.2 ++ [r])
def again (q : Qs) (id : ByteArray) (now : Int) : Int × Qs :=
  if !isT now then (1, q) else
    match q.ms[mIdx q.ms id]? with
    | none => (222, q)
    | some m => if !m.waits then (222, q) else if full q then (221, q) else
      (0, { q with ds := (m.rs.foldl (againTo q.lm now) (q.ds, [])).1, ms := endsM q.lm now (q.ms.set (mIdx q.ms id) { m with waits := false, due := 0, rs := (m.rs.foldl (againTo q.lm now) (q.ds, [])).2 }) })
def drop (q : Qs) (id : ByteArray) : Int × Qs :=
  match q.ms[mIdx q.ms id]? with
  | none => (222, q)
  | some m => if hasIn [2] m.rs then (223, q) else (0, { q with ms := q.ms.eraseIdx (mIdx q.ms id) })

def whenQ (q : Qs) (id : ByteArray) : Int :=
  match q.ms[mIdx q.ms id]? with
  | none => 0
  | some m => if m.waits then m.due else 0
/-- The places of what a list has not settled, from place k on. -/
def leftIn : Nat → List Rc → List Nat
  | _, [] => []
  | k, r :: l => if r.st = 0 then leftIn (k + 1) l else k :: leftIn (k + 1) l
def leftQ (q : Qs) (id : ByteArray) : List Nat :=
  match q.ms[mIdx q.ms id]? with
  | none => []
  | some m => leftIn 0 m.rs
end Go.Proofs.Ytnakafmlenngnaa.Qm
