/- What a driver, its channel, sender, taker and timer do, as plain functions: no program in sight. -/
import Derived.Test.YtemcpldipjbleaaBytes
namespace Mp

structure Cfg where
  sessions : Int
  window : Int
  retry : Int
  base : Int
  cap : Int
  idle : Int

def Hint.zero : Hint := ⟨0, 0, 0, 0⟩
def Msg.zero : Msg := ⟨0, 0, 0, [], 0, .zero⟩
def Gram.zero : Gram := ⟨0, 0, 0, 0, 0, []⟩

def within (n a b : Int) : Bool := decide (a ≤ n) && decide (n ≤ b)

def okCfg (c : Cfg) : Bool :=
  within c.sessions 1 16 && within c.window 1 16 && within c.retry 0 20 && within c.base 1 1000 && within c.cap c.base 1000 && within c.idle 1 1000

structure Wait where
  id : Int
  due : Int
  n : Int

structure Timer where
  base : Int
  most : Int
  tries : Int
  l : List Wait

def grow (most : Int) : Nat → Int → Int
  | 0, o => o
  | k + 1, o => if o < most then grow most k (2 * o) else o

def Timer.wait (t : Timer) (n : Int) : Int := min (grow t.most n.toNat t.base) t.most

def Timer.stop (t : Timer) (id : Int) : Timer := { t with l := t.l.filter fun x => !(x.id == id) }

def insertWait (x : Wait) : List Wait → List Wait
  | [] => [x]
  | y :: l => if y.id < x.id then y :: insertWait x l else x :: y :: l

/-- at an id above all that are waited for -/
def Timer.start (t : Timer) (id now : Int) : Timer := { t with l := t.l ++ [⟨id, now + t.wait 0, 0⟩] }

def Timer.again (t : Timer) (now : Int) (x : Wait) : Bool := decide (x.due ≤ now) && decide (x.n < t.tries)
def Timer.over (t : Timer) (now : Int) (x : Wait) : Bool := decide (x.due ≤ now) && !decide (x.n < t.tries)
def Timer.next (t : Timer) (now : Int) (x : Wait) : Wait := if t.again now x then ⟨x.id, now + t.wait (x.n + 1), x.n + 1⟩ else x
def Timer.due (t : Timer) (now : Int) : List Int × List Int × Timer :=
  ((t.l.filter (t.again now)).map (·.id), (t.l.filter (t.over now)).map (·.id),
   { t with l := (t.l.filter fun x => !t.over now x).map (t.next now) })

structure Sender where
  t : Timer
  window : Int
  next : Int
  l : List (Int × Bytes)
  over : Bool

def Sender.room (s : Sender) : Int := if s.over then 0 else s.window - s.l.length

/-- where there is room, and it is not over -/
def Sender.send (s : Sender) (now : Int) (b : Bytes) : Sender :=
  { s with t := s.t.start s.next now, next := s.next + 1, l := s.l ++ [(s.next, b)] }

def Sender.acked (s : Sender) (ack : Int) : Sender :=
  if ack > s.next then s else
    { s with t := { s.t with l := s.t.l.filter fun x => !(decide (x.id < ack) && s.l.any (·.1 == x.id)) }, l := s.l.filter fun p => !decide (p.1 < ack) }

/-- none: it is over -/
def Sender.again (s : Sender) (now : Int) : Option (List Int) × Sender :=
  if s.over then (none, s) else
    let d := s.t.due now
    if d.2.1 = [] then (some d.1, { s with t := d.2.2 }) else (none, { s with t := d.2.2, over := true })

def look (l : List (Int × Bytes)) (seq : Int) : Option Bytes := (l.find? (·.1 == seq)).map (·.2)
def Sender.body (s : Sender) (seq : Int) : Bytes := (look s.l seq).getD []

structure Taker where
  window : Int
  next : Int
  l : List (Int × Bytes)

def insertBody (x : Int × Bytes) : List (Int × Bytes) → List (Int × Bytes)
  | [] => [x]
  | y :: l => if y.1 < x.1 then y :: insertBody x l else x :: y :: l

/-- what stands at the head in turn -/
def run (n : Int) : List (Int × Bytes) → List Bytes
  | [] => []
  | x :: l => if x.1 = n then x.2 :: run (n + 1) l else []

def Taker.take (t : Taker) (seq : Int) (b : Bytes) : List Bytes × Taker :=
  if seq < t.next ∨ t.window ≤ seq - t.next ∨ (look t.l seq).isSome then ([], t) else
    let l := insertBody (seq, b) t.l
    let got := run t.next l
    (got, { t with next := t.next + got.length, l := l.drop got.length })

structure Channel where
  conn : Int
  s : Sender
  t : Taker
  owed : List Bytes

def Channel.new (c : Cfg) (conn : Int) : Channel :=
  ⟨conn, ⟨⟨c.base, c.cap, c.retry, []⟩, c.window, 0, [], false⟩, ⟨c.window, 0, []⟩, []⟩

def Channel.data (c : Channel) (seq : Int) : Gram := ⟨c.conn, 1, seq, c.t.next, 0, c.s.body seq⟩

/-- so many bodies are sent at most -/
def Channel.paysK : Nat → Channel → Int → List Gram × Channel
  | 0, c, _ => ([], c)
  | k + 1, c, now =>
    match c.owed with
    | [] => ([], c)
    | b :: rest =>
      if c.s.room ≤ 0 then ([], c) else
        let c' := { c with s := c.s.send now b, owed := rest }
        let r := Channel.paysK k c' now
        (c'.data c.s.next :: r.1, r.2)

def Channel.pays (c : Channel) (now : Int) : List Gram × Channel := Channel.paysK c.owed.length c now

def ErrNone : Int := 4
def ErrFull : Int := 5
def ErrGone : Int := 6

def Channel.push (c : Channel) (now : Int) (b : Bytes) : List Gram × Int × Channel :=
  if c.s.over then ([], ErrGone, c) else
  if 64 ≤ c.owed.length then ([], ErrFull, c) else
    let r := Channel.pays { c with owed := c.owed ++ [b] } now
    (r.1, 0, r.2)

def Channel.recv (c : Channel) (now : Int) (g : Gram) : List Bytes × List Gram × Channel :=
  if c.s.over ∨ g.conn ≠ c.conn ∨ (g.kind ≠ 1 ∧ g.kind ≠ 2) then ([], [], c) else
    let c1 := { c with s := c.s.acked g.ack }
    if g.kind = 1 then
      let k := c1.t.take g.seq g.body
      let c2 := { c1 with t := k.2 }
      let p := c2.pays now
      (k.1, ⟨c.conn, 2, 0, c2.t.next, 0, []⟩ :: p.1, p.2)
    else
      let p := c1.pays now
      ([], p.1, p.2)

def Channel.pass (c : Channel) (now : Int) : Option (List Gram) × Channel :=
  match c.s.again now with
  | (none, s) => (none, { c with s := s })
  | (some l, s) =>
    let c1 := { c with s := s }
    let p := c1.pays now
    (some (l.map c1.data ++ p.1), p.2)



/-- so many as there are, of codes and numbers: the driver -/
structure Driver where
  c : Cfg
  ch : Option Channel
  conn : Int
  live : Bool
  why : Int
  at_ : Int
  way : List Int
  has : Bool

def Driver.new (c : Cfg) : Driver := ⟨c, none, 0, false, 0, -1, [], false⟩

end Mp
