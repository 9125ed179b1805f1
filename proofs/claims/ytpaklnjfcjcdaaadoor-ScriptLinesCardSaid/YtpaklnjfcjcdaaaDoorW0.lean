/- Plain data of the scheduler, and how it lies in cells. Own work. -/
import Derived.Test.YtpaklnjfcjcdaaaDoorFacts
namespace Go.SX
open Go.Proofs
set_option linter.unusedSimpArgs false
set_option linter.unusedVariables false
structure Res where
  x : Int
  y : Int
  z : Int
  deriving DecidableEq
structure Label where
  key : ByteArray
  val : ByteArray
  deriving DecidableEq
structure Node where
  name : ByteArray
  cap : Res
  labels : List Label
  deriving DecidableEq
structure Queue where
  name : ByteArray
  quota : Res
  deriving DecidableEq
structure Task where
  name : ByteArray
  queue : ByteArray
  prio : Int
  need : Res
  wants : List Label
  apart : ByteArray
  gang : ByteArray
  size : Int
  deriving DecidableEq
structure Machine where
  node : Node
  up : Bool
  til : Int
  deriving DecidableEq
structure Job where
  task : Task
  seq : Int
  node : ByteArray
  bound : Int
  deriving DecidableEq
structure State where
  clock : Int
  next : Int
  machines : List Machine
  queues : List Queue
  jobs : List Job
  deriving DecidableEq
structure Op' where
  kind : Int
  node : Node
  queue : Queue
  task : Task
  name : ByteArray
  deriving DecidableEq
structure Act' where
  kind : Int
  task : ByteArray
  node : ByteArray
  deriving DecidableEq
structure Answer where
  err : Int
  acts : List Act'
  deriving DecidableEq
instance : Inhabited Res := ⟨⟨0, 0, 0⟩⟩
instance : Inhabited Label := ⟨⟨⟨#[]⟩, ⟨#[]⟩⟩⟩
instance : Inhabited Node := ⟨⟨⟨#[]⟩, default, []⟩⟩
instance : Inhabited Queue := ⟨⟨⟨#[]⟩, default⟩⟩
instance : Inhabited Task := ⟨⟨⟨#[]⟩, ⟨#[]⟩, 0, default, [], ⟨#[]⟩, ⟨#[]⟩, 0⟩⟩
instance : Inhabited Machine := ⟨⟨default, false, 0⟩⟩
instance : Inhabited Job := ⟨⟨default, 0, ⟨#[]⟩, 0⟩⟩
instance : Inhabited State := ⟨⟨0, 0, [], [], []⟩⟩
instance : Inhabited Op' := ⟨⟨0, default, default, default, ⟨#[]⟩⟩⟩
instance : Inhabited Act' := ⟨⟨0, ⟨#[]⟩, ⟨#[]⟩⟩⟩
/-- data of one cell -/
abbrev iD (n : Int) : XD := .val (.int .i64 n)
abbrev sD (s : ByteArray) : XD := .val (.string s)
abbrev bD (b : Bool) : XD := .val (.bool b)
abbrev iC (n : Int) : XC := .d (.val (.int .i64 n))
abbrev sC (s : ByteArray) : XC := .d (.val (.string s))
abbrev bC (b : Bool) : XC := .d (.val (.bool b))
abbrev boolV (b : Bool) : XV := .c (.d (.val (.bool b)))
abbrev intV (n : Int) : XV := .c (.d (.val (.int .i64 n)))
abbrev strV (s : ByteArray) : XV := .c (.d (.val (.string s)))
def slD {α : Type} [Inhabited α] (enc : α → List XD) (k : Nat) (l : List α) : XD := .ros k l.length (rowG enc l)
def resD (r : Res) : List XD := [iD r.x, iD r.y, iD r.z]
def labelD (l : Label) : List XD := [sD l.key, sD l.val]
def nodeD (n : Node) : List XD := [sD n.name, iD n.cap.x, iD n.cap.y, iD n.cap.z, slD labelD 2 n.labels]
def queueD (q : Queue) : List XD := [sD q.name, iD q.quota.x, iD q.quota.y, iD q.quota.z]
def taskD (t : Task) : List XD := [sD t.name, sD t.queue, iD t.prio, iD t.need.x, iD t.need.y, iD t.need.z, slD labelD 2 t.wants, sD t.apart, sD t.gang, iD t.size]
def machD (m : Machine) : List XD := [sD m.node.name, iD m.node.cap.x, iD m.node.cap.y, iD m.node.cap.z, slD labelD 2 m.node.labels, bD m.up, iD m.til]
def jobD (j : Job) : List XD := [sD j.task.name, sD j.task.queue, iD j.task.prio, iD j.task.need.x, iD j.task.need.y, iD j.task.need.z, slD labelD 2 j.task.wants, sD j.task.apart, sD j.task.gang, iD j.task.size, iD j.seq, sD j.node, iD j.bound]
def stateD (s : State) : List XD := [iD s.clock, iD s.next, slD machD 7 s.machines, slD queueD 4 s.queues, slD jobD 13 s.jobs]
def actD (a : Act') : List XD := [iD a.kind, sD a.task, sD a.node]
def opD (o : Op') : List XD := [iD o.kind] ++ nodeD o.node ++ queueD o.queue ++ taskD o.task ++ [sD o.name]
abbrev resV (r : Res) : XV := .agg [iC r.x, iC r.y, iC r.z]
abbrev aggV (l : List XD) : XV := .agg (l.map .d)
attribute [push_cast] labelD resD nodeD queueD taskD machD jobD stateD actD opD slD
end Go.SX
