/- The relay as a plain machine: clients, links, requests under way; what is sent on. No program. -/
import Derived.Test.YtlgoeipgmjcboaaGreatDoorMs
namespace Go.Proofs.YtlgoeipgmjcboaaGreatDoor

structure LinkP where
  id : Nat
  client : Nat
  fid : Nat
  num : Nat
  real : Bool
structure ReqP where
  id : Nat
  num : Nat
  client : Nat
  own : Bool
  lost : Bool
  kind : Nat
  tag : Nat
  uses : List Nat
  fresh : Nat
  fid : Nat
  names : Nat
  many : Nat
structure CliP where
  msize : Nat
  ending : Bool
  waits : Bool
  ver : ByteArray
  vsize : Nat
structure RelP where
  msize : Nat
  fids : Nat
  tags : Nat
  made : Nat
  clients : List CliP
  links : List LinkP
  reqs : List ReqP
abbrev OutP := Nat × MsgP
def CliP.none : CliP := ⟨0, false, false, ⟨#[]⟩, 0⟩
/-- The errors' texts (those that a relay tells). -/
def wordOf (e : Nat) : ByteArray :=
  if e = 32 then ⟨#[117, 110, 107, 110, 111, 119, 110, 32, 109, 101, 115, 115, 97, 103, 101]⟩ else if e = 33 then ⟨#[98, 97, 100, 32, 109, 101, 115, 115, 97, 103, 101]⟩
  else if e = 120 then ⟨#[98, 97, 100, 32, 116, 97, 103]⟩ else if e = 122 then ⟨#[109, 101, 115, 115, 97, 103, 101, 32, 115, 105, 122, 101, 32, 105, 115, 32, 116, 111, 111, 32, 115, 109, 97, 108, 108]⟩
  else if e = 121 then ⟨#[110, 111, 32, 118, 101, 114, 115, 105, 111, 110, 32, 119, 97, 115, 32, 97, 103, 114, 101, 101, 100, 32, 111, 110]⟩
  else if e = 140 then ⟨#[116, 97, 103, 32, 105, 115, 32, 105, 110, 32, 117, 115, 101]⟩ else if e = 141 then ⟨#[116, 111, 111, 32, 109, 97, 110, 121, 32, 114, 101, 113, 117, 101, 115, 116, 115]⟩
  else ⟨#[116, 111, 111, 32, 109, 97, 110, 121, 32, 102, 105, 100, 115]⟩
def wUnknown : ByteArray := ⟨#[117, 110, 107, 110, 111, 119, 110]⟩
def w9P : ByteArray := ⟨#[57, 80, 50, 48, 48, 48]⟩
/-- A version up to its first point. -/
def upTo (s : ByteArray) : ByteArray := ⟨(s.data.toList.takeWhile (· != 46)).toArray⟩
namespace RelP
def new (clients msize fids tags : Nat) : RelP := ⟨msize, fids, tags, 0, List.replicate clients CliP.none, [], []⟩
def cli (R : RelP) (n : Nat) : CliP := R.clients.getD (n - 1) CliP.none
def setCli (R : RelP) (n : Nat) (c : CliP) : RelP := { R with clients := R.clients.set (n - 1) c }
def tag (R : RelP) : Option Nat := (List.range R.tags).find? fun i => R.reqs.all fun q => q.num != i
def under (R : RelP) (n tag : Nat) : Option ReqP := R.reqs.find? fun q => q.client == n && !q.own && q.tag == tag
def link (R : RelP) (n fid : Nat) : Option LinkP := R.links.find? fun l => l.client == n && l.fid == fid
def least (R : RelP) : Option Nat := (List.range R.fids).find? fun i => R.links.all fun l => l.num != i
/-- The server's fid of one of a client's, and its link (0: none). -/
def old (R : RelP) (n fid : Nat) : Nat × Nat :=
  if fid = 4294967295 then (fid, 0) else match R.link n fid with | none => (4294967294, 0) | some l => (l.num, l.id)
/-- The server's fid of a new one of a client's, and its link (0: none); none: there is no room. -/
def fresh (R : RelP) (n fid : Nat) : Option (RelP × Nat × Nat) :=
  if fid = 4294967295 then some (R, fid, 0)
  else match R.link n fid with
    | some l => some (R, l.num, l.id)
    | none => match R.least with
      | none => none
      | some i => some ({ R with made := R.made + 1, links := R.links ++ [⟨R.made + 1, n, fid, i, false⟩] }, i, R.made + 1)
/-- A request goes to the server. -/
def sends (R : RelP) (q : ReqP) (m : MsgP) : RelP × List OutP :=
  ({ R with made := R.made + 1, reqs := R.reqs ++ [{ q with id := R.made + 1, num := R.tag.getD 0 }] }, [(0, { m with tag := R.tag.getD 0 })])
/-- The least of a client's fids whose link is real. -/
def real (R : RelP) (n : Nat) : Option LinkP :=
  (R.links.filter fun l => l.client == n && l.real).foldl (fun a l => match a with | none => some l | some b => if l.fid < b.fid then some l else some b) none
/-- One that is ending goes on, as far as it can. -/
def goes (R : RelP) (n : Nat) : RelP × List OutP :=
  if R.reqs.any (fun q => q.client == n) then (R, [])
  else match R.real n with
    | some l => if R.tag.isSome then R.sends ⟨0, 0, n, true, false, 120, 0, [l.id], 0, l.id, 0, 0⟩ { MsgP.zero with kind := 120, fid := l.num } else (R, [])
    | none =>
      if (R.cli n).waits = false then (R.setCli n CliP.none, [])
      else if upTo (R.cli n).ver = w9P then
        (R.setCli n { CliP.none with msize := min (R.cli n).vsize R.msize }, [(n, { MsgP.zero with kind := 101, tag := 65535, msize := min (R.cli n).vsize R.msize, version := w9P })])
      else (R.setCli n CliP.none, [(n, { MsgP.zero with kind := 101, tag := 65535, msize := min (R.cli n).vsize R.msize, version := wUnknown })])
/-- All clients that are ending go on: those behind the first k. -/
def goFrom : Nat → Nat → RelP → RelP × List OutP
  | 0, _, R => (R, [])
  | c + 1, n, R => if (R.cli n).ending then ((goFrom c (n + 1) (R.goes n).1).1, (R.goes n).2 ++ (goFrom c (n + 1) (R.goes n).1).2) else goFrom c (n + 1) R
def goOn (R : RelP) : RelP × List OutP := goFrom R.clients.length 1 R
/-- A client's session is ending from now on. -/
def lose (R : RelP) (n : Nat) : RelP := { R with reqs := R.reqs.map fun q => if q.client == n then { q with lost := true } else q }
def ends (R : RelP) (n : Nat) (waits : Bool) (ver : ByteArray) (vsize : Nat) : RelP × List OutP :=
  ((R.setCli n ⟨(R.cli n).msize, true, waits, ver, vsize⟩).lose n).goOn
def refuse (R : RelP) (n : Nat) (m : MsgP) (e : Nat) : RelP × List OutP := (R, [(n, { MsgP.zero with kind := 107, tag := m.tag, ename := wordOf e })])
/-- The error of a request by its form. -/
def form (m : MsgP) : Nat :=
  if answerK m.kind = none then 32 else if m.size = 0 then 33 else if decide (m.kind = 100) ≠ decide (m.tag = 65535) then 120 else if m.kind = 100 ∧ m.msize < 512 then 122 else 0
/-- A request with the server's fids: what the relay is then, the message, the links that are used, that of the new fid, that of Fid; none: there is no room. -/
def turned (R : RelP) (n : Nat) (m : MsgP) : Option (RelP × MsgP × List Nat × Nat × Nat) :=
  if m.kind = 102 then (R.fresh n m.afid).map fun x => (x.1, { m with afid := x.2.1 }, [x.2.2], x.2.2, 0)
  else if m.kind = 104 then (R.fresh n m.fid).map fun x => (x.1, { m with afid := (R.old n m.afid).1, fid := x.2.1 }, [(R.old n m.afid).2, x.2.2], x.2.2, 0)
  else if m.kind = 110 then
    if m.newfid = m.fid then some (R, { m with fid := (R.old n m.fid).1, newfid := (R.old n m.fid).1 }, [(R.old n m.fid).2], 0, (R.old n m.fid).2)
    else (R.fresh n m.newfid).map fun x => (x.1, { m with fid := (R.old n m.fid).1, newfid := x.2.1 }, [(R.old n m.fid).2, x.2.2], x.2.2, (R.old n m.fid).2)
  else some (R, { m with fid := (R.old n m.fid).1 }, [(R.old n m.fid).2], 0, (R.old n m.fid).2)
def takes (R : RelP) (n : Nat) (m : MsgP) : RelP × List OutP :=
  if form m ≠ 0 then R.refuse n m (form m)
  else if m.kind = 100 then R.ends n true m.version m.msize
  else if (R.cli n).msize = 0 then R.refuse n m 121
  else if (R.under n m.tag).isSome then R.refuse n m 140
  else if m.kind = 108 ∧ R.under n m.oldtag = none then (R, [(n, { MsgP.zero with kind := 109, tag := m.tag })])
  else if R.tag = none then R.refuse n m 141
  else match (if m.kind = 108 then R.under n m.oldtag else none) with
    | some q => R.sends ⟨0, 0, n, false, false, 108, m.tag, [], 0, 0, q.id, 0⟩ { m with oldtag := q.num }
    | none => match R.turned n m with
      | none => R.refuse n m 102
      | some x => x.1.sends ⟨0, 0, n, false, false, m.kind, m.tag, x.2.2.1.filter (· ≠ 0), x.2.2.2.1, x.2.2.2.2, 0, m.names.length⟩
          (if m.kind = 116 then { x.2.1 with count := min m.count ((R.cli n).msize - 24) } else x.2.1)
def isIn (R : RelP) (n : Int) : Prop := 1 ≤ n ∧ n ≤ R.clients.length
instance (R : RelP) (n : Int) : Decidable (R.isIn n) := inferInstanceAs (Decidable (_ ∧ _))
def limit (R : RelP) (n : Nat) : Nat := if 0 < (R.cli n).msize then (R.cli n).msize else R.msize
/-- A client's request: what the relay is then, what is sent on, and the error. -/
def inn (R : RelP) (n : Int) (m : MsgP) : (RelP × List OutP) × Nat :=
  if ¬ R.isIn n ∨ (R.cli n.toNat).ending = true then ((R, []), 200)
  else if R.limit n.toNat < m.size then ((R, []), 31)
  else (R.takes n.toNat m, 0)
def leave (R : RelP) (n : Int) : (RelP × List OutP) × Nat :=
  if ¬ R.isIn n then ((R, []), 200)
  else if 0 < (R.cli n.toNat).msize ∨ (R.cli n.toNat).ending = true then (R.ends n.toNat false ⟨#[]⟩ 0, 0)
  else ((R, []), 0)
def without (R : RelP) (id : Nat) : RelP := { R with reqs := R.reqs.filter fun q => q.id != id }
/-- What a reply makes of the links. -/
def marks (R : RelP) (q : ReqP) (m : MsgP) : RelP :=
  { R with links := R.links.map fun l =>
      if (q.kind = 120 ∨ q.kind = 122) ∧ l.id ∈ q.uses then { l with real := false }
      else if l.id = q.fresh ∧ m.kind ≠ 107 ∧ (q.kind = 102 ∨ q.kind = 104 ∨ q.kind = 110 ∧ m.qids.length = q.many) then { l with real := true } else l }
def used (R : RelP) (id : Nat) : Nat := (R.reqs.map fun q => q.uses.count id).sum
def prune (R : RelP) : RelP := { R with links := R.links.filter fun l => l.real || R.used l.id != 0 }
/-- What becomes of the relay by a reply to q. -/
def then_ (R : RelP) (q : ReqP) (m : MsgP) : RelP :=
  if q.kind = 108 then (if m.kind = 109 then (R.without q.id).without q.names else R.without q.id) else (R.without q.id).marks q m
def tells (R : RelP) (q : ReqP) (m : MsgP) : List OutP :=
  if q.own = false ∧ q.lost = false then
    [(q.client, if m.kind = 113 ∨ m.kind = 115 then { m with tag := q.tag, iounit := min m.iounit ((R.cli q.client).msize - 24) } else { m with tag := q.tag })]
  else []
def back (R : RelP) (m : MsgP) : (RelP × List OutP) × Nat :=
  match R.reqs.find? fun q => q.num == m.tag with
  | none => ((R, []), 201)
  | some q =>
    if m.kind ≠ 107 ∧ m.kind ≠ q.kind + 1 then ((R, []), 201)
    else (((R.then_ q m).prune.goOn.1, R.tells q m ++ (R.then_ q m).prune.goOn.2), 0)
def fidsOf (R : RelP) (n : Int) : Nat := R.links.countP fun l => (l.client : Int) == n
end RelP
end Go.Proofs.YtlgoeipgmjcboaaGreatDoor
