import Derived.Test.YtjkkigeefoncmaaGreatPmW
import Derived.Test.YtjkkigeefoncmaaGreatPmRec
set_option linter.unusedVariables false
namespace Go.S
open Go Go.Pm
structure Attr where
  Name : ByteArray
  Low : Int
  High : Int
  Names : (List ByteArray)
  deriving DecidableEq
instance : Enc Attr := ⟨fun x => [.str x.Name, .int .i64 x.Low, .int .i64 x.High, .lit (rows x.Names) ⟨false, false⟩], 4, fun _ => rfl⟩
theorem cells_Attr (x : Attr) : Enc.cells x = [.str x.Name, .int .i64 x.Low, .int .i64 x.High, .lit (rows x.Names) ⟨false, false⟩] := rfl
theorem size_Attr : Enc.size Attr = 4 := rfl
theorem snoc_Attr (l : List Attr) (v0 : ByteArray) (v1 : Int) (v2 : Int) (v3 : (List ByteArray)) : rows l ++ [[.str v0, .int .i64 v1, .int .i64 v2, .lit (rows v3) ⟨false, false⟩]] = rows (l ++ [(Attr.mk v0 v1 v2 v3)]) := rows_append l [(Attr.mk v0 v1 v2 v3)]
theorem set_Attr (l : List Attr) (i : Nat) (v0 : ByteArray) (v1 : Int) (v2 : Int) (v3 : (List ByteArray)) : setNth (rows l) i [.str v0, .int .i64 v1, .int .i64 v2, .lit (rows v3) ⟨false, false⟩] = rows (l.set i (Attr.mk v0 v1 v2 v3)) := rows_set l i (Attr.mk v0 v1 v2 v3)
theorem eta_Attr (x : Attr) : Attr.mk x.Name x.Low x.High x.Names = x := rfl
instance : Inj Attr := ⟨fun a b h => by
  obtain ⟨a1, a2, a3, a4⟩ := a
  obtain ⟨b1, b2, b3, b4⟩ := b
  simpa [cells_Attr, rows_iff, and_assoc] using h⟩
structure NodeType where
  Name : ByteArray
  Parent : Int
  Abstract : Bool
  Attrs : (List Attr)
  deriving DecidableEq
instance : Enc NodeType := ⟨fun x => [.str x.Name, .int .i64 x.Parent, .bool x.Abstract, .lit (rows x.Attrs) ⟨false, false⟩], 4, fun _ => rfl⟩
theorem cells_NodeType (x : NodeType) : Enc.cells x = [.str x.Name, .int .i64 x.Parent, .bool x.Abstract, .lit (rows x.Attrs) ⟨false, false⟩] := rfl
theorem size_NodeType : Enc.size NodeType = 4 := rfl
theorem snoc_NodeType (l : List NodeType) (v0 : ByteArray) (v1 : Int) (v2 : Bool) (v3 : (List Attr)) : rows l ++ [[.str v0, .int .i64 v1, .bool v2, .lit (rows v3) ⟨false, false⟩]] = rows (l ++ [(NodeType.mk v0 v1 v2 v3)]) := rows_append l [(NodeType.mk v0 v1 v2 v3)]
theorem set_NodeType (l : List NodeType) (i : Nat) (v0 : ByteArray) (v1 : Int) (v2 : Bool) (v3 : (List Attr)) : setNth (rows l) i [.str v0, .int .i64 v1, .bool v2, .lit (rows v3) ⟨false, false⟩] = rows (l.set i (NodeType.mk v0 v1 v2 v3)) := rows_set l i (NodeType.mk v0 v1 v2 v3)
theorem eta_NodeType (x : NodeType) : NodeType.mk x.Name x.Parent x.Abstract x.Attrs = x := rfl
instance : Inj NodeType := ⟨fun a b h => by
  obtain ⟨a1, a2, a3, a4⟩ := a
  obtain ⟨b1, b2, b3, b4⟩ := b
  simpa [cells_NodeType, rows_iff, and_assoc] using h⟩
structure EdgeType where
  Name : ByteArray
  From : Int
  To : Int
  OutLow : Int
  OutHigh : Int
  InLow : Int
  InHigh : Int
  deriving DecidableEq
instance : Enc EdgeType := ⟨fun x => [.str x.Name, .int .i64 x.From, .int .i64 x.To, .int .i64 x.OutLow, .int .i64 x.OutHigh, .int .i64 x.InLow, .int .i64 x.InHigh], 7, fun _ => rfl⟩
theorem cells_EdgeType (x : EdgeType) : Enc.cells x = [.str x.Name, .int .i64 x.From, .int .i64 x.To, .int .i64 x.OutLow, .int .i64 x.OutHigh, .int .i64 x.InLow, .int .i64 x.InHigh] := rfl
theorem size_EdgeType : Enc.size EdgeType = 7 := rfl
theorem snoc_EdgeType (l : List EdgeType) (v0 : ByteArray) (v1 : Int) (v2 : Int) (v3 : Int) (v4 : Int) (v5 : Int) (v6 : Int) : rows l ++ [[.str v0, .int .i64 v1, .int .i64 v2, .int .i64 v3, .int .i64 v4, .int .i64 v5, .int .i64 v6]] = rows (l ++ [(EdgeType.mk v0 v1 v2 v3 v4 v5 v6)]) := rows_append l [(EdgeType.mk v0 v1 v2 v3 v4 v5 v6)]
theorem set_EdgeType (l : List EdgeType) (i : Nat) (v0 : ByteArray) (v1 : Int) (v2 : Int) (v3 : Int) (v4 : Int) (v5 : Int) (v6 : Int) : setNth (rows l) i [.str v0, .int .i64 v1, .int .i64 v2, .int .i64 v3, .int .i64 v4, .int .i64 v5, .int .i64 v6] = rows (l.set i (EdgeType.mk v0 v1 v2 v3 v4 v5 v6)) := rows_set l i (EdgeType.mk v0 v1 v2 v3 v4 v5 v6)
instance : Plain EdgeType := ⟨fun _ => rfl⟩
theorem eta_EdgeType (x : EdgeType) : EdgeType.mk x.Name x.From x.To x.OutLow x.OutHigh x.InLow x.InHigh = x := rfl
instance : Inj EdgeType := ⟨fun a b h => by
  obtain ⟨a1, a2, a3, a4, a5, a6, a7⟩ := a
  obtain ⟨b1, b2, b3, b4, b5, b6, b7⟩ := b
  simpa [cells_EdgeType, rows_iff, and_assoc] using h⟩
structure Types where
  Nodes : (List NodeType)
  Edges : (List EdgeType)
  deriving DecidableEq
instance : Enc Types := ⟨fun x => [.lit (rows x.Nodes) ⟨false, false⟩, .lit (rows x.Edges) ⟨false, false⟩], 2, fun _ => rfl⟩
theorem cells_Types (x : Types) : Enc.cells x = [.lit (rows x.Nodes) ⟨false, false⟩, .lit (rows x.Edges) ⟨false, false⟩] := rfl
theorem size_Types : Enc.size Types = 2 := rfl
theorem snoc_Types (l : List Types) (v0 : (List NodeType)) (v1 : (List EdgeType)) : rows l ++ [[.lit (rows v0) ⟨false, false⟩, .lit (rows v1) ⟨false, false⟩]] = rows (l ++ [(Types.mk v0 v1)]) := rows_append l [(Types.mk v0 v1)]
theorem set_Types (l : List Types) (i : Nat) (v0 : (List NodeType)) (v1 : (List EdgeType)) : setNth (rows l) i [.lit (rows v0) ⟨false, false⟩, .lit (rows v1) ⟨false, false⟩] = rows (l.set i (Types.mk v0 v1)) := rows_set l i (Types.mk v0 v1)
theorem eta_Types (x : Types) : Types.mk x.Nodes x.Edges = x := rfl
instance : Inj Types := ⟨fun a b h => by
  obtain ⟨a1, a2⟩ := a
  obtain ⟨b1, b2⟩ := b
  simpa [cells_Types, rows_iff, and_assoc] using h⟩
structure Stage where
  Weights : (List Int)
  Removed : (List Int)
  deriving DecidableEq
instance : Enc Stage := ⟨fun x => [.lit (rows x.Weights) ⟨false, false⟩, .lit (rows x.Removed) ⟨false, false⟩], 2, fun _ => rfl⟩
theorem cells_Stage (x : Stage) : Enc.cells x = [.lit (rows x.Weights) ⟨false, false⟩, .lit (rows x.Removed) ⟨false, false⟩] := rfl
theorem size_Stage : Enc.size Stage = 2 := rfl
theorem snoc_Stage (l : List Stage) (v0 : (List Int)) (v1 : (List Int)) : rows l ++ [[.lit (rows v0) ⟨false, false⟩, .lit (rows v1) ⟨false, false⟩]] = rows (l ++ [(Stage.mk v0 v1)]) := rows_append l [(Stage.mk v0 v1)]
theorem set_Stage (l : List Stage) (i : Nat) (v0 : (List Int)) (v1 : (List Int)) : setNth (rows l) i [.lit (rows v0) ⟨false, false⟩, .lit (rows v1) ⟨false, false⟩] = rows (l.set i (Stage.mk v0 v1)) := rows_set l i (Stage.mk v0 v1)
theorem eta_Stage (x : Stage) : Stage.mk x.Weights x.Removed = x := rfl
instance : Inj Stage := ⟨fun a b h => by
  obtain ⟨a1, a2⟩ := a
  obtain ⟨b1, b2⟩ := b
  simpa [cells_Stage, rows_iff, and_assoc] using h⟩
structure Edge where
  Type_ : Int
  From : Int
  To : Int
  deriving DecidableEq
instance : Enc Edge := ⟨fun x => [.int .i64 x.Type_, .int .i64 x.From, .int .i64 x.To], 3, fun _ => rfl⟩
theorem cells_Edge (x : Edge) : Enc.cells x = [.int .i64 x.Type_, .int .i64 x.From, .int .i64 x.To] := rfl
theorem size_Edge : Enc.size Edge = 3 := rfl
theorem snoc_Edge (l : List Edge) (v0 : Int) (v1 : Int) (v2 : Int) : rows l ++ [[.int .i64 v0, .int .i64 v1, .int .i64 v2]] = rows (l ++ [(Edge.mk v0 v1 v2)]) := rows_append l [(Edge.mk v0 v1 v2)]
theorem set_Edge (l : List Edge) (i : Nat) (v0 : Int) (v1 : Int) (v2 : Int) : setNth (rows l) i [.int .i64 v0, .int .i64 v1, .int .i64 v2] = rows (l.set i (Edge.mk v0 v1 v2)) := rows_set l i (Edge.mk v0 v1 v2)
instance : Plain Edge := ⟨fun _ => rfl⟩
theorem eta_Edge (x : Edge) : Edge.mk x.Type_ x.From x.To = x := rfl
instance : Inj Edge := ⟨fun a b h => by
  obtain ⟨a1, a2, a3⟩ := a
  obtain ⟨b1, b2, b3⟩ := b
  simpa [cells_Edge, rows_iff, and_assoc] using h⟩
structure Graph where
  Nodes : (List Int)
  Edges : (List Edge)
  deriving DecidableEq
instance : Enc Graph := ⟨fun x => [.lit (rows x.Nodes) ⟨false, false⟩, .lit (rows x.Edges) ⟨false, false⟩], 2, fun _ => rfl⟩
theorem cells_Graph (x : Graph) : Enc.cells x = [.lit (rows x.Nodes) ⟨false, false⟩, .lit (rows x.Edges) ⟨false, false⟩] := rfl
theorem size_Graph : Enc.size Graph = 2 := rfl
theorem snoc_Graph (l : List Graph) (v0 : (List Int)) (v1 : (List Edge)) : rows l ++ [[.lit (rows v0) ⟨false, false⟩, .lit (rows v1) ⟨false, false⟩]] = rows (l ++ [(Graph.mk v0 v1)]) := rows_append l [(Graph.mk v0 v1)]
theorem set_Graph (l : List Graph) (i : Nat) (v0 : (List Int)) (v1 : (List Edge)) : setNth (rows l) i [.lit (rows v0) ⟨false, false⟩, .lit (rows v1) ⟨false, false⟩] = rows (l.set i (Graph.mk v0 v1)) := rows_set l i (Graph.mk v0 v1)
theorem eta_Graph (x : Graph) : Graph.mk x.Nodes x.Edges = x := rfl
instance : Inj Graph := ⟨fun a b h => by
  obtain ⟨a1, a2⟩ := a
  obtain ⟨b1, b2⟩ := b
  simpa [cells_Graph, rows_iff, and_assoc] using h⟩
structure Count where
  Type_ : Int
  From : Int
  To : Int
  Number : Int
  deriving DecidableEq
instance : Enc Count := ⟨fun x => [.int .i64 x.Type_, .int .i64 x.From, .int .i64 x.To, .int .i64 x.Number], 4, fun _ => rfl⟩
theorem cells_Count (x : Count) : Enc.cells x = [.int .i64 x.Type_, .int .i64 x.From, .int .i64 x.To, .int .i64 x.Number] := rfl
theorem size_Count : Enc.size Count = 4 := rfl
theorem snoc_Count (l : List Count) (v0 : Int) (v1 : Int) (v2 : Int) (v3 : Int) : rows l ++ [[.int .i64 v0, .int .i64 v1, .int .i64 v2, .int .i64 v3]] = rows (l ++ [(Count.mk v0 v1 v2 v3)]) := rows_append l [(Count.mk v0 v1 v2 v3)]
theorem set_Count (l : List Count) (i : Nat) (v0 : Int) (v1 : Int) (v2 : Int) (v3 : Int) : setNth (rows l) i [.int .i64 v0, .int .i64 v1, .int .i64 v2, .int .i64 v3] = rows (l.set i (Count.mk v0 v1 v2 v3)) := rows_set l i (Count.mk v0 v1 v2 v3)
instance : Plain Count := ⟨fun _ => rfl⟩
theorem eta_Count (x : Count) : Count.mk x.Type_ x.From x.To x.Number = x := rfl
instance : Inj Count := ⟨fun a b h => by
  obtain ⟨a1, a2, a3, a4⟩ := a
  obtain ⟨b1, b2, b3, b4⟩ := b
  simpa [cells_Count, rows_iff, and_assoc] using h⟩
structure Statistic where
  Nodes : (List Count)
  Edges : (List Count)
  deriving DecidableEq
instance : Enc Statistic := ⟨fun x => [.lit (rows x.Nodes) ⟨false, false⟩, .lit (rows x.Edges) ⟨false, false⟩], 2, fun _ => rfl⟩
theorem cells_Statistic (x : Statistic) : Enc.cells x = [.lit (rows x.Nodes) ⟨false, false⟩, .lit (rows x.Edges) ⟨false, false⟩] := rfl
theorem size_Statistic : Enc.size Statistic = 2 := rfl
theorem snoc_Statistic (l : List Statistic) (v0 : (List Count)) (v1 : (List Count)) : rows l ++ [[.lit (rows v0) ⟨false, false⟩, .lit (rows v1) ⟨false, false⟩]] = rows (l ++ [(Statistic.mk v0 v1)]) := rows_append l [(Statistic.mk v0 v1)]
theorem set_Statistic (l : List Statistic) (i : Nat) (v0 : (List Count)) (v1 : (List Count)) : setNth (rows l) i [.lit (rows v0) ⟨false, false⟩, .lit (rows v1) ⟨false, false⟩] = rows (l.set i (Statistic.mk v0 v1)) := rows_set l i (Statistic.mk v0 v1)
theorem eta_Statistic (x : Statistic) : Statistic.mk x.Nodes x.Edges = x := rfl
instance : Inj Statistic := ⟨fun a b h => by
  obtain ⟨a1, a2⟩ := a
  obtain ⟨b1, b2⟩ := b
  simpa [cells_Statistic, rows_iff, and_assoc] using h⟩
structure Morphism where
  Nodes : (List Int)
  Edges : (List Int)
  deriving DecidableEq
instance : Enc Morphism := ⟨fun x => [.lit (rows x.Nodes) ⟨false, false⟩, .lit (rows x.Edges) ⟨false, false⟩], 2, fun _ => rfl⟩
theorem cells_Morphism (x : Morphism) : Enc.cells x = [.lit (rows x.Nodes) ⟨false, false⟩, .lit (rows x.Edges) ⟨false, false⟩] := rfl
theorem size_Morphism : Enc.size Morphism = 2 := rfl
theorem snoc_Morphism (l : List Morphism) (v0 : (List Int)) (v1 : (List Int)) : rows l ++ [[.lit (rows v0) ⟨false, false⟩, .lit (rows v1) ⟨false, false⟩]] = rows (l ++ [(Morphism.mk v0 v1)]) := rows_append l [(Morphism.mk v0 v1)]
theorem set_Morphism (l : List Morphism) (i : Nat) (v0 : (List Int)) (v1 : (List Int)) : setNth (rows l) i [.lit (rows v0) ⟨false, false⟩, .lit (rows v1) ⟨false, false⟩] = rows (l.set i (Morphism.mk v0 v1)) := rows_set l i (Morphism.mk v0 v1)
theorem eta_Morphism (x : Morphism) : Morphism.mk x.Nodes x.Edges = x := rfl
instance : Inj Morphism := ⟨fun a b h => by
  obtain ⟨a1, a2⟩ := a
  obtain ⟨b1, b2⟩ := b
  simpa [cells_Morphism, rows_iff, and_assoc] using h⟩
structure Term where
  Var : Int
  Add : Int
  deriving DecidableEq
instance : Enc Term := ⟨fun x => [.int .i64 x.Var, .int .i64 x.Add], 2, fun _ => rfl⟩
theorem cells_Term (x : Term) : Enc.cells x = [.int .i64 x.Var, .int .i64 x.Add] := rfl
theorem size_Term : Enc.size Term = 2 := rfl
theorem snoc_Term (l : List Term) (v0 : Int) (v1 : Int) : rows l ++ [[.int .i64 v0, .int .i64 v1]] = rows (l ++ [(Term.mk v0 v1)]) := rows_append l [(Term.mk v0 v1)]
theorem set_Term (l : List Term) (i : Nat) (v0 : Int) (v1 : Int) : setNth (rows l) i [.int .i64 v0, .int .i64 v1] = rows (l.set i (Term.mk v0 v1)) := rows_set l i (Term.mk v0 v1)
instance : Plain Term := ⟨fun _ => rfl⟩
theorem eta_Term (x : Term) : Term.mk x.Var x.Add = x := rfl
instance : Inj Term := ⟨fun a b h => by
  obtain ⟨a1, a2⟩ := a
  obtain ⟨b1, b2⟩ := b
  simpa [cells_Term, rows_iff, and_assoc] using h⟩
structure Slot where
  Node : Int
  Attr : Int
  Term : Term
  deriving DecidableEq
instance : Enc Slot := ⟨fun x => [.int .i64 x.Node, .int .i64 x.Attr, .int .i64 x.Term.Var, .int .i64 x.Term.Add], 4, fun _ => rfl⟩
theorem cells_Slot (x : Slot) : Enc.cells x = [.int .i64 x.Node, .int .i64 x.Attr, .int .i64 x.Term.Var, .int .i64 x.Term.Add] := rfl
theorem size_Slot : Enc.size Slot = 4 := rfl
theorem snoc_Slot (l : List Slot) (v0 : Int) (v1 : Int) (v2 : Int) (v3 : Int) : rows l ++ [[.int .i64 v0, .int .i64 v1, .int .i64 v2, .int .i64 v3]] = rows (l ++ [(Slot.mk v0 v1 (Term.mk v2 v3))]) := rows_append l [(Slot.mk v0 v1 (Term.mk v2 v3))]
theorem set_Slot (l : List Slot) (i : Nat) (v0 : Int) (v1 : Int) (v2 : Int) (v3 : Int) : setNth (rows l) i [.int .i64 v0, .int .i64 v1, .int .i64 v2, .int .i64 v3] = rows (l.set i (Slot.mk v0 v1 (Term.mk v2 v3))) := rows_set l i (Slot.mk v0 v1 (Term.mk v2 v3))
instance : Plain Slot := ⟨fun _ => rfl⟩
theorem eta_Slot (x : Slot) : Slot.mk x.Node x.Attr x.Term = x := rfl
instance : Inj Slot := ⟨fun a b h => by
  obtain ⟨a1, a2, ⟨a3, a4⟩⟩ := a
  obtain ⟨b1, b2, ⟨b3, b4⟩⟩ := b
  simpa [cells_Slot, rows_iff, and_assoc] using h⟩
structure Test where
  Kind : Int
  Left : Term
  Right : Term
  deriving DecidableEq
instance : Enc Test := ⟨fun x => [.int .i64 x.Kind, .int .i64 x.Left.Var, .int .i64 x.Left.Add, .int .i64 x.Right.Var, .int .i64 x.Right.Add], 5, fun _ => rfl⟩
theorem cells_Test (x : Test) : Enc.cells x = [.int .i64 x.Kind, .int .i64 x.Left.Var, .int .i64 x.Left.Add, .int .i64 x.Right.Var, .int .i64 x.Right.Add] := rfl
theorem size_Test : Enc.size Test = 5 := rfl
theorem snoc_Test (l : List Test) (v0 : Int) (v1 : Int) (v2 : Int) (v3 : Int) (v4 : Int) : rows l ++ [[.int .i64 v0, .int .i64 v1, .int .i64 v2, .int .i64 v3, .int .i64 v4]] = rows (l ++ [(Test.mk v0 (Term.mk v1 v2) (Term.mk v3 v4))]) := rows_append l [(Test.mk v0 (Term.mk v1 v2) (Term.mk v3 v4))]
theorem set_Test (l : List Test) (i : Nat) (v0 : Int) (v1 : Int) (v2 : Int) (v3 : Int) (v4 : Int) : setNth (rows l) i [.int .i64 v0, .int .i64 v1, .int .i64 v2, .int .i64 v3, .int .i64 v4] = rows (l.set i (Test.mk v0 (Term.mk v1 v2) (Term.mk v3 v4))) := rows_set l i (Test.mk v0 (Term.mk v1 v2) (Term.mk v3 v4))
instance : Plain Test := ⟨fun _ => rfl⟩
theorem eta_Test (x : Test) : Test.mk x.Kind x.Left x.Right = x := rfl
instance : Inj Test := ⟨fun a b h => by
  obtain ⟨a1, ⟨a2, a3⟩, ⟨a4, a5⟩⟩ := a
  obtain ⟨b1, ⟨b2, b3⟩, ⟨b4, b5⟩⟩ := b
  simpa [cells_Test, rows_iff, and_assoc] using h⟩
structure Pattern where
  Graph : Graph
  Slots : (List Slot)
  Vars : Int
  Tests : (List Test)
  deriving DecidableEq
instance : Enc Pattern := ⟨fun x => [.lit (rows x.Graph.Nodes) ⟨false, false⟩, .lit (rows x.Graph.Edges) ⟨false, false⟩, .lit (rows x.Slots) ⟨false, false⟩, .int .i64 x.Vars, .lit (rows x.Tests) ⟨false, false⟩], 5, fun _ => rfl⟩
theorem cells_Pattern (x : Pattern) : Enc.cells x = [.lit (rows x.Graph.Nodes) ⟨false, false⟩, .lit (rows x.Graph.Edges) ⟨false, false⟩, .lit (rows x.Slots) ⟨false, false⟩, .int .i64 x.Vars, .lit (rows x.Tests) ⟨false, false⟩] := rfl
theorem size_Pattern : Enc.size Pattern = 5 := rfl
theorem snoc_Pattern (l : List Pattern) (v0 : (List Int)) (v1 : (List Edge)) (v2 : (List Slot)) (v3 : Int) (v4 : (List Test)) : rows l ++ [[.lit (rows v0) ⟨false, false⟩, .lit (rows v1) ⟨false, false⟩, .lit (rows v2) ⟨false, false⟩, .int .i64 v3, .lit (rows v4) ⟨false, false⟩]] = rows (l ++ [(Pattern.mk (Graph.mk v0 v1) v2 v3 v4)]) := rows_append l [(Pattern.mk (Graph.mk v0 v1) v2 v3 v4)]
theorem set_Pattern (l : List Pattern) (i : Nat) (v0 : (List Int)) (v1 : (List Edge)) (v2 : (List Slot)) (v3 : Int) (v4 : (List Test)) : setNth (rows l) i [.lit (rows v0) ⟨false, false⟩, .lit (rows v1) ⟨false, false⟩, .lit (rows v2) ⟨false, false⟩, .int .i64 v3, .lit (rows v4) ⟨false, false⟩] = rows (l.set i (Pattern.mk (Graph.mk v0 v1) v2 v3 v4)) := rows_set l i (Pattern.mk (Graph.mk v0 v1) v2 v3 v4)
theorem eta_Pattern (x : Pattern) : Pattern.mk x.Graph x.Slots x.Vars x.Tests = x := rfl
instance : Inj Pattern := ⟨fun a b h => by
  obtain ⟨⟨a1, a2⟩, a3, a4, a5⟩ := a
  obtain ⟨⟨b1, b2⟩, b3, b4, b5⟩ := b
  simpa [cells_Pattern, rows_iff, and_assoc] using h⟩
structure Part where
  Nodes : (List Int)
  Edges : (List Int)
  deriving DecidableEq
instance : Enc Part := ⟨fun x => [.lit (rows x.Nodes) ⟨false, false⟩, .lit (rows x.Edges) ⟨false, false⟩], 2, fun _ => rfl⟩
theorem cells_Part (x : Part) : Enc.cells x = [.lit (rows x.Nodes) ⟨false, false⟩, .lit (rows x.Edges) ⟨false, false⟩] := rfl
theorem size_Part : Enc.size Part = 2 := rfl
theorem snoc_Part (l : List Part) (v0 : (List Int)) (v1 : (List Int)) : rows l ++ [[.lit (rows v0) ⟨false, false⟩, .lit (rows v1) ⟨false, false⟩]] = rows (l ++ [(Part.mk v0 v1)]) := rows_append l [(Part.mk v0 v1)]
theorem set_Part (l : List Part) (i : Nat) (v0 : (List Int)) (v1 : (List Int)) : setNth (rows l) i [.lit (rows v0) ⟨false, false⟩, .lit (rows v1) ⟨false, false⟩] = rows (l.set i (Part.mk v0 v1)) := rows_set l i (Part.mk v0 v1)
theorem eta_Part (x : Part) : Part.mk x.Nodes x.Edges = x := rfl
instance : Inj Part := ⟨fun a b h => by
  obtain ⟨a1, a2⟩ := a
  obtain ⟨b1, b2⟩ := b
  simpa [cells_Part, rows_iff, and_assoc] using h⟩
structure CountingFinder where
  effects : (List (List Int))
  touched : (List Int)
  w : (List Int)
  sum : Int
  best : (List Int)
  least : Int
  lowered : Int
  deriving DecidableEq
instance : Enc CountingFinder := ⟨fun x => [.lit (rows x.effects) ⟨false, false⟩, .lit (rows x.touched) ⟨false, false⟩, .lit (rows x.w) ⟨false, false⟩, .int .i64 x.sum, .lit (rows x.best) ⟨false, false⟩, .int .i64 x.least, .int .i64 x.lowered], 7, fun _ => rfl⟩
theorem cells_CountingFinder (x : CountingFinder) : Enc.cells x = [.lit (rows x.effects) ⟨false, false⟩, .lit (rows x.touched) ⟨false, false⟩, .lit (rows x.w) ⟨false, false⟩, .int .i64 x.sum, .lit (rows x.best) ⟨false, false⟩, .int .i64 x.least, .int .i64 x.lowered] := rfl
theorem size_CountingFinder : Enc.size CountingFinder = 7 := rfl
theorem snoc_CountingFinder (l : List CountingFinder) (v0 : (List (List Int))) (v1 : (List Int)) (v2 : (List Int)) (v3 : Int) (v4 : (List Int)) (v5 : Int) (v6 : Int) : rows l ++ [[.lit (rows v0) ⟨false, false⟩, .lit (rows v1) ⟨false, false⟩, .lit (rows v2) ⟨false, false⟩, .int .i64 v3, .lit (rows v4) ⟨false, false⟩, .int .i64 v5, .int .i64 v6]] = rows (l ++ [(CountingFinder.mk v0 v1 v2 v3 v4 v5 v6)]) := rows_append l [(CountingFinder.mk v0 v1 v2 v3 v4 v5 v6)]
theorem set_CountingFinder (l : List CountingFinder) (i : Nat) (v0 : (List (List Int))) (v1 : (List Int)) (v2 : (List Int)) (v3 : Int) (v4 : (List Int)) (v5 : Int) (v6 : Int) : setNth (rows l) i [.lit (rows v0) ⟨false, false⟩, .lit (rows v1) ⟨false, false⟩, .lit (rows v2) ⟨false, false⟩, .int .i64 v3, .lit (rows v4) ⟨false, false⟩, .int .i64 v5, .int .i64 v6] = rows (l.set i (CountingFinder.mk v0 v1 v2 v3 v4 v5 v6)) := rows_set l i (CountingFinder.mk v0 v1 v2 v3 v4 v5 v6)
theorem eta_CountingFinder (x : CountingFinder) : CountingFinder.mk x.effects x.touched x.w x.sum x.best x.least x.lowered = x := rfl
instance : Inj CountingFinder := ⟨fun a b h => by
  obtain ⟨a1, a2, a3, a4, a5, a6, a7⟩ := a
  obtain ⟨b1, b2, b3, b4, b5, b6, b7⟩ := b
  simpa [cells_CountingFinder, rows_iff, and_assoc] using h⟩
structure Token where
  Kind : Int
  Text : ByteArray
  Line : Int
  deriving DecidableEq
instance : Enc Token := ⟨fun x => [.int .i64 x.Kind, .str x.Text, .int .i64 x.Line], 3, fun _ => rfl⟩
theorem cells_Token (x : Token) : Enc.cells x = [.int .i64 x.Kind, .str x.Text, .int .i64 x.Line] := rfl
theorem size_Token : Enc.size Token = 3 := rfl
theorem snoc_Token (l : List Token) (v0 : Int) (v1 : ByteArray) (v2 : Int) : rows l ++ [[.int .i64 v0, .str v1, .int .i64 v2]] = rows (l ++ [(Token.mk v0 v1 v2)]) := rows_append l [(Token.mk v0 v1 v2)]
theorem set_Token (l : List Token) (i : Nat) (v0 : Int) (v1 : ByteArray) (v2 : Int) : setNth (rows l) i [.int .i64 v0, .str v1, .int .i64 v2] = rows (l.set i (Token.mk v0 v1 v2)) := rows_set l i (Token.mk v0 v1 v2)
instance : Plain Token := ⟨fun _ => rfl⟩
theorem eta_Token (x : Token) : Token.mk x.Kind x.Text x.Line = x := rfl
instance : Inj Token := ⟨fun a b h => by
  obtain ⟨a1, a2, a3⟩ := a
  obtain ⟨b1, b2, b3⟩ := b
  simpa [cells_Token, rows_iff, and_assoc] using h⟩
set_option linter.defProp false
def WS :=
  And.intro @cells_Attr <|
  And.intro @size_Attr <|
  And.intro @snoc_Attr <|
  And.intro @set_Attr <|
  And.intro @eta_Attr <|
  And.intro @cells_NodeType <|
  And.intro @size_NodeType <|
  And.intro @snoc_NodeType <|
  And.intro @set_NodeType <|
  And.intro @eta_NodeType <|
  And.intro @cells_EdgeType <|
  And.intro @size_EdgeType <|
  And.intro @snoc_EdgeType <|
  And.intro @set_EdgeType <|
  And.intro @eta_EdgeType <|
  And.intro @cells_Types <|
  And.intro @size_Types <|
  And.intro @snoc_Types <|
  And.intro @set_Types <|
  And.intro @eta_Types <|
  And.intro @cells_Stage <|
  And.intro @size_Stage <|
  And.intro @snoc_Stage <|
  And.intro @set_Stage <|
  And.intro @eta_Stage <|
  And.intro @cells_Edge <|
  And.intro @size_Edge <|
  And.intro @snoc_Edge <|
  And.intro @set_Edge <|
  And.intro @eta_Edge <|
  And.intro @cells_Graph <|
  And.intro @size_Graph <|
  And.intro @snoc_Graph <|
  And.intro @set_Graph <|
  And.intro @eta_Graph <|
  And.intro @cells_Count <|
  And.intro @size_Count <|
  And.intro @snoc_Count <|
  And.intro @set_Count <|
  And.intro @eta_Count <|
  And.intro @cells_Statistic <|
  And.intro @size_Statistic <|
  And.intro @snoc_Statistic <|
  And.intro @set_Statistic <|
  And.intro @eta_Statistic <|
  And.intro @cells_Morphism <|
  And.intro @size_Morphism <|
  And.intro @snoc_Morphism <|
  And.intro @set_Morphism <|
  And.intro @eta_Morphism <|
  And.intro @cells_Term <|
  And.intro @size_Term <|
  And.intro @snoc_Term <|
  And.intro @set_Term <|
  And.intro @eta_Term <|
  And.intro @cells_Slot <|
  And.intro @size_Slot <|
  And.intro @snoc_Slot <|
  And.intro @set_Slot <|
  And.intro @eta_Slot <|
  And.intro @cells_Test <|
  And.intro @size_Test <|
  And.intro @snoc_Test <|
  And.intro @set_Test <|
  And.intro @eta_Test <|
  And.intro @cells_Pattern <|
  And.intro @size_Pattern <|
  And.intro @snoc_Pattern <|
  And.intro @set_Pattern <|
  And.intro @eta_Pattern <|
  And.intro @cells_Part <|
  And.intro @size_Part <|
  And.intro @snoc_Part <|
  And.intro @set_Part <|
  And.intro @eta_Part <|
  And.intro @cells_CountingFinder <|
  And.intro @size_CountingFinder <|
  And.intro @snoc_CountingFinder <|
  And.intro @set_CountingFinder <|
  And.intro @eta_CountingFinder <|
  And.intro @cells_Token <|
  And.intro @size_Token <|
  And.intro @snoc_Token <|
  And.intro @set_Token @eta_Token
end Go.S
