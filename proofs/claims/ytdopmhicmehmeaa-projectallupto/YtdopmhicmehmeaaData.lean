/-
  Part of the proof that the law ProjectAll returns true at every input of bulk at most 1048576, and leaves its arguments as they were; the whole is stated at the end of the last text.
-/
import Derived.Test.YtdopmhicmehmeaaEngT
set_option linter.unusedVariables false
namespace Go.Eng
open Go
structure runtime_boundsError where
  x : Int
  y : Int
  signed : Bool
  code : Int
def runtime_boundsError.d (x : runtime_boundsError) : List D := [iD x.x, iD x.y, bD x.signed, .v (.int .u8 x.code)]

structure runtime_errorAddressString where
  msg : ByteArray
  addr : Int
def runtime_errorAddressString.d (x : runtime_errorAddressString) : List D := [sD x.msg, .v (.int .u64 x.addr)]

structure api_View where
  Name : ByteArray
  ID : Int
  Table : ByteArray
  On : ByteArray
  Cols : List ByteArray
def api_View.d (x : api_View) : List D := [sD x.Name, iD x.ID, sD x.Table, sD x.On, .sl 1 (x.Cols.map strD)]

structure api_Cell where
  Val : ByteArray
  Dead : Bool
  At : Int
  End : Int
def api_Cell.d (x : api_Cell) : List D := [sD x.Val, bD x.Dead, iD x.At, iD x.End]

structure api_Col where
  Name : ByteArray
  Cell : api_Cell
def api_Col.d (x : api_Col) : List D := [sD x.Name, sD x.Cell.Val, bD x.Cell.Dead, iD x.Cell.At, iD x.Cell.End]

structure api_Row where
  Key : ByteArray
  Live : api_Cell
  Gone : Int
  Shade : Int
  Cols : List api_Col
def api_Row.d (x : api_Row) : List D := [sD x.Key, sD x.Live.Val, bD x.Live.Dead, iD x.Live.At, iD x.Live.End, iD x.Gone, iD x.Shade, .sl 5 (x.Cols.map api_Col.d)]

structure api_Part where
  Key : ByteArray
  Gone : Int
  Rows : List api_Row
def api_Part.d (x : api_Part) : List D := [sD x.Key, iD x.Gone, .sl 8 (x.Rows.map api_Row.d)]

structure api_Column where
  Name : ByteArray
  Type_ : Int
def api_Column.d (x : api_Column) : List D := [sD x.Name, iD x.Type_]

structure api_Table where
  Name : ByteArray
  ID : Int
  Part : api_Column
  Clus : api_Column
  Cols : List api_Column
def api_Table.d (x : api_Table) : List D := [sD x.Name, iD x.ID, sD x.Part.Name, iD x.Part.Type_, sD x.Clus.Name, iD x.Clus.Type_, .sl 2 (x.Cols.map api_Column.d)]

structure clerestoryref01_R where
  R : Int
  At : Int
  Size : Int
  OK : Bool
def clerestoryref01_R.d (x : clerestoryref01_R) : List D := [.v (.int .i32 x.R), iD x.At, iD x.Size, bD x.OK]

end Go.Eng
