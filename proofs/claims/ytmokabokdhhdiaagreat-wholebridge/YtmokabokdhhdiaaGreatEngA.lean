/- A part of the evaluator of the program and of its proof: texts E1, E2. -/
import GoSem.Step
import Derived.KernelRfl
set_option linter.unusedVariables false
namespace Go.Eng
structure A4 where
  (b0 b1 b2 b3 : UInt8)
  deriving DecidableEq
structure A6 where
  (b0 b1 b2 b3 b4 b5 : UInt8)
  deriving DecidableEq
structure LearntS where
  (MAC : A6)
  (Port : Int)
  deriving DecidableEq
structure BridgeS where
  (Ports : Int)
  (Learnt : List (LearntS))
  deriving DecidableEq
structure TalkS where
  (What : Int)
  (A : Int)
  (B : Int)
  (C : Int)
  (S : List UInt8)
  deriving DecidableEq
structure SegmentS where
  (Src : Int)
  (Dst : Int)
  (Seq : Int)
  (Ack : Int)
  (Flags : UInt8)
  (Wnd : Int)
  (MSS : Int)
  (Data : List (UInt8))
  deriving DecidableEq
structure PacketS where
  (ID : Int)
  (More : Bool)
  (Off : Int)
  (TTL : UInt8)
  (Proto : UInt8)
  (Src : A4)
  (Dst : A4)
  (Data : List (UInt8))
  deriving DecidableEq
structure EchoS where
  (Reply : Bool)
  (ID : Int)
  (Seq : Int)
  (Data : List (UInt8))
  deriving DecidableEq
structure DatagramS where
  (Src : Int)
  (Dst : Int)
  (Data : List (UInt8))
  deriving DecidableEq
structure ArpS where
  (Op : Int)
  (FromMAC : A6)
  (From : A4)
  (ToMAC : A6)
  (To : A4)
  deriving DecidableEq
structure PieceS where
  (Seq : Int)
  (Data : List (UInt8))
  deriving DecidableEq
structure RecvS where
  (Next : Int)
  (Data : List (UInt8))
  (Ahead : List (PieceS))
  (Known : Bool)
  (End : Int)
  (Done : Bool)
  deriving DecidableEq
structure SendS where
  (Una : Int)
  (Data : List (UInt8))
  (Sent : Int)
  (End : Bool)
  (EndSent : Bool)
  (EndAcked : Bool)
  deriving DecidableEq
structure AddrS where
  (IP : A4)
  (Port : Int)
  deriving DecidableEq
structure ClockS where
  (Smooth : Int)
  (Spread : Int)
  (Wait : Int)
  deriving DecidableEq
structure ConnS where
  (Phase : Int)
  (Self : AddrS)
  (Peer : AddrS)
  (First : Int)
  (Send : SendS)
  (Recv : RecvS)
  (Window : Int)
  (MSS : Int)
  (Clock : ClockS)
  (Due : Int)
  (Tries : Int)
  (Timing : Bool)
  (TimedSeq : Int)
  (TimedAt : Int)
  (Until : Int)
  (Ended : Bool)
  (Err : Int)
  deriving DecidableEq
structure SockS where
  (Kind : Int)
  (Port : Int)
  (Conn : ConnS)
  (Limit : Int)
  (Pending : List (ConnS))
  deriving DecidableEq
structure SocksS where
  (IP : A4)
  (Slots : List (SockS))
  (Port : Int)
  deriving DecidableEq
structure ParcelS where
  (To : A4)
  (Segment : SegmentS)
  deriving DecidableEq
structure bayToldS where
  (n : Int)
  (data : List (UInt8))
  (out : List (ParcelS))
  (e : Int)
  deriving DecidableEq
structure RingS where
  (Slots : List (List (UInt8)))
  (Posted : Int)
  (Taken : Int)
  (Done : Int)
  (Reaped : Int)
  deriving DecidableEq
structure BlockS where
  (At : Int)
  (Len : Int)
  deriving DecidableEq
structure HeapS where
  (Bytes : List (UInt8))
  (Blocks : List (BlockS))
  (Dirty : List (Bool))
  deriving DecidableEq
structure MachineS where
  (Socks : SocksS)
  (Heap : HeapS)
  (Now : Int)
  (First : Int)
  deriving DecidableEq
structure RouteS where
  (Net : A4)
  (Bits : Int)
  (Via : A4)
  deriving DecidableEq
structure NeighS where
  (IP : A4)
  (MAC : A6)
  (Since : Int)
  deriving DecidableEq
structure PartS where
  (Off : Int)
  (Data : List (UInt8))
  deriving DecidableEq
structure HoleS where
  (Src : A4)
  (Dst : A4)
  (Proto : UInt8)
  (ID : Int)
  (TTL : UInt8)
  (Since : Int)
  (End : Int)
  (Got : List (PartS))
  deriving DecidableEq
structure WaitS where
  (To : A4)
  (Body : List (UInt8))
  (Since : Int)
  deriving DecidableEq
structure ThreadS where
  (Prog : List UInt8)
  (At : Int)
  (Listen : Int)
  (Conn : Int)
  (Last : List (UInt8))
  (Sent : Int)
  (Block : Int)
  (Done : Bool)
  (Log : List (List UInt8))
  deriving DecidableEq
structure HostS where
  (MAC : A6)
  (IP : A4)
  (Routes : List (RouteS))
  (Neighs : List (NeighS))
  (Holes : List (HoleS))
  (Waits : List (WaitS))
  (Rx : RingS)
  (Tx : RingS)
  (Machine : MachineS)
  (Threads : List (ThreadS))
  (NextID : Int)
  deriving DecidableEq
structure endS where
  (Conn : ConnS)
  (now : Int)
  (out : List (SegmentS))
  deriving DecidableEq
structure tableS where
  (Socks : SocksS)
  (out : List (ParcelS))
  deriving DecidableEq
structure nodeS where
  (Host : HostS)
  deriving DecidableEq
structure FrameS where
  (Dst : A6)
  (Src : A6)
  (Typ : Int)
  (Body : List (UInt8))
  deriving DecidableEq
inductive SN
  | A4
  | A6
  | Learnt
  | Bridge
  | Talk
  | Segment
  | Packet
  | Echo
  | Datagram
  | Arp
  | Piece
  | Recv
  | Send
  | Addr
  | Clock
  | Conn
  | Sock
  | Socks
  | Parcel
  | bayTold
  | Ring
  | Block
  | Heap
  | Machine
  | Route
  | Neigh
  | Part
  | Hole
  | Wait
  | Thread
  | Host
  | end
  | table
  | node
  | Frame
  deriving DecidableEq
@[reducible] def SN.S : SN → Type
  | .A4 => _root_.Go.Eng.A4
  | .A6 => _root_.Go.Eng.A6
  | .Learnt => LearntS
  | .Bridge => BridgeS
  | .Talk => TalkS
  | .Segment => SegmentS
  | .Packet => PacketS
  | .Echo => EchoS
  | .Datagram => DatagramS
  | .Arp => ArpS
  | .Piece => PieceS
  | .Recv => RecvS
  | .Send => SendS
  | .Addr => AddrS
  | .Clock => ClockS
  | .Conn => ConnS
  | .Sock => SockS
  | .Socks => SocksS
  | .Parcel => ParcelS
  | .bayTold => bayToldS
  | .Ring => RingS
  | .Block => BlockS
  | .Heap => HeapS
  | .Machine => MachineS
  | .Route => RouteS
  | .Neigh => NeighS
  | .Part => PartS
  | .Hole => HoleS
  | .Wait => WaitS
  | .Thread => ThreadS
  | .Host => HostS
  | .end => endS
  | .table => tableS
  | .node => nodeS
  | .Frame => FrameS
inductive Cd
  | u8 | u16 | u32 | u64 | i64 | i32 | bool | str | sl (c : Cd) | st (s : SN)
  deriving DecidableEq
@[reducible] def Cd.T : Cd → Type
  | .u8 => UInt8
  | .u16 | .u32 | .u64 | .i64 | .i32 => Int
  | .bool => Bool
  | .str => List UInt8
  | .sl c => List c.T
  | .st s => s.S
@[reducible] def HL : List Cd → Type
  | [] => Unit
  | c :: cs => c.T × HL cs
/-- The cells of a struct, flattened: their codes. -/
def lvs : SN → List Cd
  | .A4 => [.u8, .u8, .u8, .u8]
  | .A6 => [.u8, .u8, .u8, .u8, .u8, .u8]
  | .Learnt => [.u8, .u8, .u8, .u8, .u8, .u8, .i64]
  | .Bridge => [.i64, .sl (.st .Learnt)]
  | .Talk => [.i64, .i64, .i64, .i64, .str]
  | .Segment => [.u16, .u16, .u32, .u32, .u8, .u16, .u16, .sl .u8]
  | .Packet => [.u16, .bool, .i64, .u8, .u8, .u8, .u8, .u8, .u8, .u8, .u8, .u8, .u8, .sl .u8]
  | .Echo => [.bool, .u16, .u16, .sl .u8]
  | .Datagram => [.u16, .u16, .sl .u8]
  | .Arp => [.i64, .u8, .u8, .u8, .u8, .u8, .u8, .u8, .u8, .u8, .u8, .u8, .u8, .u8, .u8, .u8, .u8, .u8, .u8, .u8, .u8]
  | .Piece => [.u32, .sl .u8]
  | .Recv => [.u32, .sl .u8, .sl (.st .Piece), .bool, .u32, .bool]
  | .Send => [.u32, .sl .u8, .i64, .bool, .bool, .bool]
  | .Addr => [.u8, .u8, .u8, .u8, .u16]
  | .Clock => [.i64, .i64, .i64]
  | .Conn => [.i64, .u8, .u8, .u8, .u8, .u16, .u8, .u8, .u8, .u8, .u16, .u32, .u32, .sl .u8, .i64, .bool, .bool, .bool, .u32, .sl .u8, .sl (.st .Piece), .bool, .u32, .bool, .i64, .i64, .i64, .i64, .i64, .u64, .i64, .bool, .u32, .u64, .u64, .bool, .i64]
  | .Sock => [.i64, .u16, .i64, .u8, .u8, .u8, .u8, .u16, .u8, .u8, .u8, .u8, .u16, .u32, .u32, .sl .u8, .i64, .bool, .bool, .bool, .u32, .sl .u8, .sl (.st .Piece), .bool, .u32, .bool, .i64, .i64, .i64, .i64, .i64, .u64, .i64, .bool, .u32, .u64, .u64, .bool, .i64, .i64, .sl (.st .Conn)]
  | .Socks => [.u8, .u8, .u8, .u8, .sl (.st .Sock), .u16]
  | .Parcel => [.u8, .u8, .u8, .u8, .u16, .u16, .u32, .u32, .u8, .u16, .u16, .sl .u8]
  | .bayTold => [.i64, .sl .u8, .sl (.st .Parcel), .i64]
  | .Ring => [.sl (.sl .u8), .u16, .u16, .u16, .u16]
  | .Block => [.i64, .i64]
  | .Heap => [.sl .u8, .sl (.st .Block), .sl .bool]
  | .Machine => [.u8, .u8, .u8, .u8, .sl (.st .Sock), .u16, .sl .u8, .sl (.st .Block), .sl .bool, .u64, .u32]
  | .Route => [.u8, .u8, .u8, .u8, .i64, .u8, .u8, .u8, .u8]
  | .Neigh => [.u8, .u8, .u8, .u8, .u8, .u8, .u8, .u8, .u8, .u8, .u64]
  | .Part => [.i64, .sl .u8]
  | .Hole => [.u8, .u8, .u8, .u8, .u8, .u8, .u8, .u8, .u8, .u16, .u8, .u64, .i64, .sl (.st .Part)]
  | .Wait => [.u8, .u8, .u8, .u8, .sl .u8, .u64]
  | .Thread => [.str, .i64, .i64, .i64, .sl .u8, .i64, .i64, .bool, .sl .str]
  | .Host => [.u8, .u8, .u8, .u8, .u8, .u8, .u8, .u8, .u8, .u8, .sl (.st .Route), .sl (.st .Neigh), .sl (.st .Hole), .sl (.st .Wait), .sl (.sl .u8), .u16, .u16, .u16, .u16, .sl (.sl .u8), .u16, .u16, .u16, .u16, .u8, .u8, .u8, .u8, .sl (.st .Sock), .u16, .sl .u8, .sl (.st .Block), .sl .bool, .u64, .u32, .sl (.st .Thread), .u16]
  | .end => [.i64, .u8, .u8, .u8, .u8, .u16, .u8, .u8, .u8, .u8, .u16, .u32, .u32, .sl .u8, .i64, .bool, .bool, .bool, .u32, .sl .u8, .sl (.st .Piece), .bool, .u32, .bool, .i64, .i64, .i64, .i64, .i64, .u64, .i64, .bool, .u32, .u64, .u64, .bool, .i64, .u64, .sl (.st .Segment)]
  | .table => [.u8, .u8, .u8, .u8, .sl (.st .Sock), .u16, .sl (.st .Parcel)]
  | .node => [.u8, .u8, .u8, .u8, .u8, .u8, .u8, .u8, .u8, .u8, .sl (.st .Route), .sl (.st .Neigh), .sl (.st .Hole), .sl (.st .Wait), .sl (.sl .u8), .u16, .u16, .u16, .u16, .sl (.sl .u8), .u16, .u16, .u16, .u16, .u8, .u8, .u8, .u8, .sl (.st .Sock), .u16, .sl .u8, .sl (.st .Block), .sl .bool, .u64, .u32, .sl (.st .Thread), .u16]
  | .Frame => [.u8, .u8, .u8, .u8, .u8, .u8, .u8, .u8, .u8, .u8, .u8, .u8, .u16, .sl .u8]
def toH : (s : SN) → s.S → HL (lvs s)
  | .A4, x => (x.b0, x.b1, x.b2, x.b3, ())
  | .A6, x => (x.b0, x.b1, x.b2, x.b3, x.b4, x.b5, ())
  | .Learnt, x => (x.MAC.b0, x.MAC.b1, x.MAC.b2, x.MAC.b3, x.MAC.b4, x.MAC.b5, x.Port, ())
  | .Bridge, x => (x.Ports, x.Learnt, ())
  | .Talk, x => (x.What, x.A, x.B, x.C, x.S, ())
  | .Segment, x => (x.Src, x.Dst, x.Seq, x.Ack, x.Flags, x.Wnd, x.MSS, x.Data, ())
  | .Packet, x => (x.ID, x.More, x.Off, x.TTL, x.Proto, x.Src.b0, x.Src.b1, x.Src.b2, x.Src.b3, x.Dst.b0, x.Dst.b1, x.Dst.b2, x.Dst.b3, x.Data, ())
  | .Echo, x => (x.Reply, x.ID, x.Seq, x.Data, ())
  | .Datagram, x => (x.Src, x.Dst, x.Data, ())
  | .Arp, x => (x.Op, x.FromMAC.b0, x.FromMAC.b1, x.FromMAC.b2, x.FromMAC.b3, x.FromMAC.b4, x.FromMAC.b5, x.From.b0, x.From.b1, x.From.b2, x.From.b3, x.ToMAC.b0, x.ToMAC.b1, x.ToMAC.b2, x.ToMAC.b3, x.ToMAC.b4, x.ToMAC.b5, x.To.b0, x.To.b1, x.To.b2, x.To.b3, ())
  | .Piece, x => (x.Seq, x.Data, ())
  | .Recv, x => (x.Next, x.Data, x.Ahead, x.Known, x.End, x.Done, ())
  | .Send, x => (x.Una, x.Data, x.Sent, x.End, x.EndSent, x.EndAcked, ())
  | .Addr, x => (x.IP.b0, x.IP.b1, x.IP.b2, x.IP.b3, x.Port, ())
  | .Clock, x => (x.Smooth, x.Spread, x.Wait, ())
  | .Conn, x => (x.Phase, x.Self.IP.b0, x.Self.IP.b1, x.Self.IP.b2, x.Self.IP.b3, x.Self.Port, x.Peer.IP.b0, x.Peer.IP.b1, x.Peer.IP.b2, x.Peer.IP.b3, x.Peer.Port, x.First, x.Send.Una, x.Send.Data, x.Send.Sent, x.Send.End, x.Send.EndSent, x.Send.EndAcked, x.Recv.Next, x.Recv.Data, x.Recv.Ahead, x.Recv.Known, x.Recv.End, x.Recv.Done, x.Window, x.MSS, x.Clock.Smooth, x.Clock.Spread, x.Clock.Wait, x.Due, x.Tries, x.Timing, x.TimedSeq, x.TimedAt, x.Until, x.Ended, x.Err, ())
  | .Sock, x => (x.Kind, x.Port, x.Conn.Phase, x.Conn.Self.IP.b0, x.Conn.Self.IP.b1, x.Conn.Self.IP.b2, x.Conn.Self.IP.b3, x.Conn.Self.Port, x.Conn.Peer.IP.b0, x.Conn.Peer.IP.b1, x.Conn.Peer.IP.b2, x.Conn.Peer.IP.b3, x.Conn.Peer.Port, x.Conn.First, x.Conn.Send.Una, x.Conn.Send.Data, x.Conn.Send.Sent, x.Conn.Send.End, x.Conn.Send.EndSent, x.Conn.Send.EndAcked, x.Conn.Recv.Next, x.Conn.Recv.Data, x.Conn.Recv.Ahead, x.Conn.Recv.Known, x.Conn.Recv.End, x.Conn.Recv.Done, x.Conn.Window, x.Conn.MSS, x.Conn.Clock.Smooth, x.Conn.Clock.Spread, x.Conn.Clock.Wait, x.Conn.Due, x.Conn.Tries, x.Conn.Timing, x.Conn.TimedSeq, x.Conn.TimedAt, x.Conn.Until, x.Conn.Ended, x.Conn.Err, x.Limit, x.Pending, ())
  | .Socks, x => (x.IP.b0, x.IP.b1, x.IP.b2, x.IP.b3, x.Slots, x.Port, ())
  | .Parcel, x => (x.To.b0, x.To.b1, x.To.b2, x.To.b3, x.Segment.Src, x.Segment.Dst, x.Segment.Seq, x.Segment.Ack, x.Segment.Flags, x.Segment.Wnd, x.Segment.MSS, x.Segment.Data, ())
  | .bayTold, x => (x.n, x.data, x.out, x.e, ())
  | .Ring, x => (x.Slots, x.Posted, x.Taken, x.Done, x.Reaped, ())
  | .Block, x => (x.At, x.Len, ())
  | .Heap, x => (x.Bytes, x.Blocks, x.Dirty, ())
  | .Machine, x => (x.Socks.IP.b0, x.Socks.IP.b1, x.Socks.IP.b2, x.Socks.IP.b3, x.Socks.Slots, x.Socks.Port, x.Heap.Bytes, x.Heap.Blocks, x.Heap.Dirty, x.Now, x.First, ())
  | .Route, x => (x.Net.b0, x.Net.b1, x.Net.b2, x.Net.b3, x.Bits, x.Via.b0, x.Via.b1, x.Via.b2, x.Via.b3, ())
  | .Neigh, x => (x.IP.b0, x.IP.b1, x.IP.b2, x.IP.b3, x.MAC.b0, x.MAC.b1, x.MAC.b2, x.MAC.b3, x.MAC.b4, x.MAC.b5, x.Since, ())
  | .Part, x => (x.Off, x.Data, ())
  | .Hole, x => (x.Src.b0, x.Src.b1, x.Src.b2, x.Src.b3, x.Dst.b0, x.Dst.b1, x.Dst.b2, x.Dst.b3, x.Proto, x.ID, x.TTL, x.Since, x.End, x.Got, ())
  | .Wait, x => (x.To.b0, x.To.b1, x.To.b2, x.To.b3, x.Body, x.Since, ())
  | .Thread, x => (x.Prog, x.At, x.Listen, x.Conn, x.Last, x.Sent, x.Block, x.Done, x.Log, ())
  | .Host, x => (x.MAC.b0, x.MAC.b1, x.MAC.b2, x.MAC.b3, x.MAC.b4, x.MAC.b5, x.IP.b0, x.IP.b1, x.IP.b2, x.IP.b3, x.Routes, x.Neighs, x.Holes, x.Waits, x.Rx.Slots, x.Rx.Posted, x.Rx.Taken, x.Rx.Done, x.Rx.Reaped, x.Tx.Slots, x.Tx.Posted, x.Tx.Taken, x.Tx.Done, x.Tx.Reaped, x.Machine.Socks.IP.b0, x.Machine.Socks.IP.b1, x.Machine.Socks.IP.b2, x.Machine.Socks.IP.b3, x.Machine.Socks.Slots, x.Machine.Socks.Port, x.Machine.Heap.Bytes, x.Machine.Heap.Blocks, x.Machine.Heap.Dirty, x.Machine.Now, x.Machine.First, x.Threads, x.NextID, ())
  | .end, x => (x.Conn.Phase, x.Conn.Self.IP.b0, x.Conn.Self.IP.b1, x.Conn.Self.IP.b2, x.Conn.Self.IP.b3, x.Conn.Self.Port, x.Conn.Peer.IP.b0, x.Conn.Peer.IP.b1, x.Conn.Peer.IP.b2, x.Conn.Peer.IP.b3, x.Conn.Peer.Port, x.Conn.First, x.Conn.Send.Una, x.Conn.Send.Data, x.Conn.Send.Sent, x.Conn.Send.End, x.Conn.Send.EndSent, x.Conn.Send.EndAcked, x.Conn.Recv.Next, x.Conn.Recv.Data, x.Conn.Recv.Ahead, x.Conn.Recv.Known, x.Conn.Recv.End, x.Conn.Recv.Done, x.Conn.Window, x.Conn.MSS, x.Conn.Clock.Smooth, x.Conn.Clock.Spread, x.Conn.Clock.Wait, x.Conn.Due, x.Conn.Tries, x.Conn.Timing, x.Conn.TimedSeq, x.Conn.TimedAt, x.Conn.Until, x.Conn.Ended, x.Conn.Err, x.now, x.out, ())
  | .table, x => (x.Socks.IP.b0, x.Socks.IP.b1, x.Socks.IP.b2, x.Socks.IP.b3, x.Socks.Slots, x.Socks.Port, x.out, ())
  | .node, x => (x.Host.MAC.b0, x.Host.MAC.b1, x.Host.MAC.b2, x.Host.MAC.b3, x.Host.MAC.b4, x.Host.MAC.b5, x.Host.IP.b0, x.Host.IP.b1, x.Host.IP.b2, x.Host.IP.b3, x.Host.Routes, x.Host.Neighs, x.Host.Holes, x.Host.Waits, x.Host.Rx.Slots, x.Host.Rx.Posted, x.Host.Rx.Taken, x.Host.Rx.Done, x.Host.Rx.Reaped, x.Host.Tx.Slots, x.Host.Tx.Posted, x.Host.Tx.Taken, x.Host.Tx.Done, x.Host.Tx.Reaped, x.Host.Machine.Socks.IP.b0, x.Host.Machine.Socks.IP.b1, x.Host.Machine.Socks.IP.b2, x.Host.Machine.Socks.IP.b3, x.Host.Machine.Socks.Slots, x.Host.Machine.Socks.Port, x.Host.Machine.Heap.Bytes, x.Host.Machine.Heap.Blocks, x.Host.Machine.Heap.Dirty, x.Host.Machine.Now, x.Host.Machine.First, x.Host.Threads, x.Host.NextID, ())
  | .Frame, x => (x.Dst.b0, x.Dst.b1, x.Dst.b2, x.Dst.b3, x.Dst.b4, x.Dst.b5, x.Src.b0, x.Src.b1, x.Src.b2, x.Src.b3, x.Src.b4, x.Src.b5, x.Typ, x.Body, ())
def ofH : (s : SN) → HL (lvs s) → s.S
  | .A4, (a0, a1, a2, a3, _) => ⟨a0, a1, a2, a3⟩
  | .A6, (a0, a1, a2, a3, a4, a5, _) => ⟨a0, a1, a2, a3, a4, a5⟩
  | .Learnt, (a0, a1, a2, a3, a4, a5, a6, _) => ⟨⟨a0, a1, a2, a3, a4, a5⟩, a6⟩
  | .Bridge, (a0, a1, _) => ⟨a0, a1⟩
  | .Talk, (a0, a1, a2, a3, a4, _) => ⟨a0, a1, a2, a3, a4⟩
  | .Segment, (a0, a1, a2, a3, a4, a5, a6, a7, _) => ⟨a0, a1, a2, a3, a4, a5, a6, a7⟩
  | .Packet, (a0, a1, a2, a3, a4, a5, a6, a7, a8, a9, a10, a11, a12, a13, _) => ⟨a0, a1, a2, a3, a4, ⟨a5, a6, a7, a8⟩, ⟨a9, a10, a11, a12⟩, a13⟩
  | .Echo, (a0, a1, a2, a3, _) => ⟨a0, a1, a2, a3⟩
  | .Datagram, (a0, a1, a2, _) => ⟨a0, a1, a2⟩
  | .Arp, (a0, a1, a2, a3, a4, a5, a6, a7, a8, a9, a10, a11, a12, a13, a14, a15, a16, a17, a18, a19, a20, _) => ⟨a0, ⟨a1, a2, a3, a4, a5, a6⟩, ⟨a7, a8, a9, a10⟩, ⟨a11, a12, a13, a14, a15, a16⟩, ⟨a17, a18, a19, a20⟩⟩
  | .Piece, (a0, a1, _) => ⟨a0, a1⟩
  | .Recv, (a0, a1, a2, a3, a4, a5, _) => ⟨a0, a1, a2, a3, a4, a5⟩
  | .Send, (a0, a1, a2, a3, a4, a5, _) => ⟨a0, a1, a2, a3, a4, a5⟩
  | .Addr, (a0, a1, a2, a3, a4, _) => ⟨⟨a0, a1, a2, a3⟩, a4⟩
  | .Clock, (a0, a1, a2, _) => ⟨a0, a1, a2⟩
  | .Conn, (a0, a1, a2, a3, a4, a5, a6, a7, a8, a9, a10, a11, a12, a13, a14, a15, a16, a17, a18, a19, a20, a21, a22, a23, a24, a25, a26, a27, a28, a29, a30, a31, a32, a33, a34, a35, a36, _) => ⟨a0, ⟨⟨a1, a2, a3, a4⟩, a5⟩, ⟨⟨a6, a7, a8, a9⟩, a10⟩, a11, ⟨a12, a13, a14, a15, a16, a17⟩, ⟨a18, a19, a20, a21, a22, a23⟩, a24, a25, ⟨a26, a27, a28⟩, a29, a30, a31, a32, a33, a34, a35, a36⟩
  | .Sock, (a0, a1, a2, a3, a4, a5, a6, a7, a8, a9, a10, a11, a12, a13, a14, a15, a16, a17, a18, a19, a20, a21, a22, a23, a24, a25, a26, a27, a28, a29, a30, a31, a32, a33, a34, a35, a36, a37, a38, a39, a40, _) => ⟨a0, a1, ⟨a2, ⟨⟨a3, a4, a5, a6⟩, a7⟩, ⟨⟨a8, a9, a10, a11⟩, a12⟩, a13, ⟨a14, a15, a16, a17, a18, a19⟩, ⟨a20, a21, a22, a23, a24, a25⟩, a26, a27, ⟨a28, a29, a30⟩, a31, a32, a33, a34, a35, a36, a37, a38⟩, a39, a40⟩
  | .Socks, (a0, a1, a2, a3, a4, a5, _) => ⟨⟨a0, a1, a2, a3⟩, a4, a5⟩
  | .Parcel, (a0, a1, a2, a3, a4, a5, a6, a7, a8, a9, a10, a11, _) => ⟨⟨a0, a1, a2, a3⟩, ⟨a4, a5, a6, a7, a8, a9, a10, a11⟩⟩
  | .bayTold, (a0, a1, a2, a3, _) => ⟨a0, a1, a2, a3⟩
  | .Ring, (a0, a1, a2, a3, a4, _) => ⟨a0, a1, a2, a3, a4⟩
  | .Block, (a0, a1, _) => ⟨a0, a1⟩
  | .Heap, (a0, a1, a2, _) => ⟨a0, a1, a2⟩
  | .Machine, (a0, a1, a2, a3, a4, a5, a6, a7, a8, a9, a10, _) => ⟨⟨⟨a0, a1, a2, a3⟩, a4, a5⟩, ⟨a6, a7, a8⟩, a9, a10⟩
  | .Route, (a0, a1, a2, a3, a4, a5, a6, a7, a8, _) => ⟨⟨a0, a1, a2, a3⟩, a4, ⟨a5, a6, a7, a8⟩⟩
  | .Neigh, (a0, a1, a2, a3, a4, a5, a6, a7, a8, a9, a10, _) => ⟨⟨a0, a1, a2, a3⟩, ⟨a4, a5, a6, a7, a8, a9⟩, a10⟩
  | .Part, (a0, a1, _) => ⟨a0, a1⟩
  | .Hole, (a0, a1, a2, a3, a4, a5, a6, a7, a8, a9, a10, a11, a12, a13, _) => ⟨⟨a0, a1, a2, a3⟩, ⟨a4, a5, a6, a7⟩, a8, a9, a10, a11, a12, a13⟩
  | .Wait, (a0, a1, a2, a3, a4, a5, _) => ⟨⟨a0, a1, a2, a3⟩, a4, a5⟩
  | .Thread, (a0, a1, a2, a3, a4, a5, a6, a7, a8, _) => ⟨a0, a1, a2, a3, a4, a5, a6, a7, a8⟩
  | .Host, (a0, a1, a2, a3, a4, a5, a6, a7, a8, a9, a10, a11, a12, a13, a14, a15, a16, a17, a18, a19, a20, a21, a22, a23, a24, a25, a26, a27, a28, a29, a30, a31, a32, a33, a34, a35, a36, _) => ⟨⟨a0, a1, a2, a3, a4, a5⟩, ⟨a6, a7, a8, a9⟩, a10, a11, a12, a13, ⟨a14, a15, a16, a17, a18⟩, ⟨a19, a20, a21, a22, a23⟩, ⟨⟨⟨a24, a25, a26, a27⟩, a28, a29⟩, ⟨a30, a31, a32⟩, a33, a34⟩, a35, a36⟩
  | .end, (a0, a1, a2, a3, a4, a5, a6, a7, a8, a9, a10, a11, a12, a13, a14, a15, a16, a17, a18, a19, a20, a21, a22, a23, a24, a25, a26, a27, a28, a29, a30, a31, a32, a33, a34, a35, a36, a37, a38, _) => ⟨⟨a0, ⟨⟨a1, a2, a3, a4⟩, a5⟩, ⟨⟨a6, a7, a8, a9⟩, a10⟩, a11, ⟨a12, a13, a14, a15, a16, a17⟩, ⟨a18, a19, a20, a21, a22, a23⟩, a24, a25, ⟨a26, a27, a28⟩, a29, a30, a31, a32, a33, a34, a35, a36⟩, a37, a38⟩
  | .table, (a0, a1, a2, a3, a4, a5, a6, _) => ⟨⟨⟨a0, a1, a2, a3⟩, a4, a5⟩, a6⟩
  | .node, (a0, a1, a2, a3, a4, a5, a6, a7, a8, a9, a10, a11, a12, a13, a14, a15, a16, a17, a18, a19, a20, a21, a22, a23, a24, a25, a26, a27, a28, a29, a30, a31, a32, a33, a34, a35, a36, _) => ⟨⟨⟨a0, a1, a2, a3, a4, a5⟩, ⟨a6, a7, a8, a9⟩, a10, a11, a12, a13, ⟨a14, a15, a16, a17, a18⟩, ⟨a19, a20, a21, a22, a23⟩, ⟨⟨⟨a24, a25, a26, a27⟩, a28, a29⟩, ⟨a30, a31, a32⟩, a33, a34⟩, a35, a36⟩⟩
  | .Frame, (a0, a1, a2, a3, a4, a5, a6, a7, a8, a9, a10, a11, a12, a13, _) => ⟨⟨a0, a1, a2, a3, a4, a5⟩, ⟨a6, a7, a8, a9, a10, a11⟩, a12, a13⟩
theorem toH_ofH : (s : SN) → (h : HL (lvs s)) → toH s (ofH s h) = h
  | .A4, _ => rfl
  | .A6, _ => rfl
  | .Learnt, _ => rfl
  | .Bridge, _ => rfl
  | .Talk, _ => rfl
  | .Segment, _ => rfl
  | .Packet, _ => rfl
  | .Echo, _ => rfl
  | .Datagram, _ => rfl
  | .Arp, _ => rfl
  | .Piece, _ => rfl
  | .Recv, _ => rfl
  | .Send, _ => rfl
  | .Addr, _ => rfl
  | .Clock, _ => rfl
  | .Conn, _ => rfl
  | .Sock, _ => rfl
  | .Socks, _ => rfl
  | .Parcel, _ => rfl
  | .bayTold, _ => rfl
  | .Ring, _ => rfl
  | .Block, _ => rfl
  | .Heap, _ => rfl
  | .Machine, _ => rfl
  | .Route, _ => rfl
  | .Neigh, _ => rfl
  | .Part, _ => rfl
  | .Hole, _ => rfl
  | .Wait, _ => rfl
  | .Thread, _ => rfl
  | .Host, _ => rfl
  | .end, _ => rfl
  | .table, _ => rfl
  | .node, _ => rfl
  | .Frame, _ => rfl
theorem ofH_toH : (s : SN) → (x : s.S) → ofH s (toH s x) = x
  | .A4, _ => rfl
  | .A6, _ => rfl
  | .Learnt, _ => rfl
  | .Bridge, _ => rfl
  | .Talk, _ => rfl
  | .Segment, _ => rfl
  | .Packet, _ => rfl
  | .Echo, _ => rfl
  | .Datagram, _ => rfl
  | .Arp, _ => rfl
  | .Piece, _ => rfl
  | .Recv, _ => rfl
  | .Send, _ => rfl
  | .Addr, _ => rfl
  | .Clock, _ => rfl
  | .Conn, _ => rfl
  | .Sock, _ => rfl
  | .Socks, _ => rfl
  | .Parcel, _ => rfl
  | .bayTold, _ => rfl
  | .Ring, _ => rfl
  | .Block, _ => rfl
  | .Heap, _ => rfl
  | .Machine, _ => rfl
  | .Route, _ => rfl
  | .Neigh, _ => rfl
  | .Part, _ => rfl
  | .Hole, _ => rfl
  | .Wait, _ => rfl
  | .Thread, _ => rfl
  | .Host, _ => rfl
  | .end, _ => rfl
  | .table, _ => rfl
  | .node, _ => rfl
  | .Frame, _ => rfl
def dfltS : (s : SN) → s.S
  | .A4 => ⟨0, 0, 0, 0⟩
  | .A6 => ⟨0, 0, 0, 0, 0, 0⟩
  | .Learnt => ⟨⟨0, 0, 0, 0, 0, 0⟩, 0⟩
  | .Bridge => ⟨0, []⟩
  | .Talk => ⟨0, 0, 0, 0, []⟩
  | .Segment => ⟨0, 0, 0, 0, 0, 0, 0, []⟩
  | .Packet => ⟨0, false, 0, 0, 0, ⟨0, 0, 0, 0⟩, ⟨0, 0, 0, 0⟩, []⟩
  | .Echo => ⟨false, 0, 0, []⟩
  | .Datagram => ⟨0, 0, []⟩
  | .Arp => ⟨0, ⟨0, 0, 0, 0, 0, 0⟩, ⟨0, 0, 0, 0⟩, ⟨0, 0, 0, 0, 0, 0⟩, ⟨0, 0, 0, 0⟩⟩
  | .Piece => ⟨0, []⟩
  | .Recv => ⟨0, [], [], false, 0, false⟩
  | .Send => ⟨0, [], 0, false, false, false⟩
  | .Addr => ⟨⟨0, 0, 0, 0⟩, 0⟩
  | .Clock => ⟨0, 0, 0⟩
  | .Conn => ⟨0, ⟨⟨0, 0, 0, 0⟩, 0⟩, ⟨⟨0, 0, 0, 0⟩, 0⟩, 0, ⟨0, [], 0, false, false, false⟩, ⟨0, [], [], false, 0, false⟩, 0, 0, ⟨0, 0, 0⟩, 0, 0, false, 0, 0, 0, false, 0⟩
  | .Sock => ⟨0, 0, ⟨0, ⟨⟨0, 0, 0, 0⟩, 0⟩, ⟨⟨0, 0, 0, 0⟩, 0⟩, 0, ⟨0, [], 0, false, false, false⟩, ⟨0, [], [], false, 0, false⟩, 0, 0, ⟨0, 0, 0⟩, 0, 0, false, 0, 0, 0, false, 0⟩, 0, []⟩
  | .Socks => ⟨⟨0, 0, 0, 0⟩, [], 0⟩
  | .Parcel => ⟨⟨0, 0, 0, 0⟩, ⟨0, 0, 0, 0, 0, 0, 0, []⟩⟩
  | .bayTold => ⟨0, [], [], 0⟩
  | .Ring => ⟨[], 0, 0, 0, 0⟩
  | .Block => ⟨0, 0⟩
  | .Heap => ⟨[], [], []⟩
  | .Machine => ⟨⟨⟨0, 0, 0, 0⟩, [], 0⟩, ⟨[], [], []⟩, 0, 0⟩
  | .Route => ⟨⟨0, 0, 0, 0⟩, 0, ⟨0, 0, 0, 0⟩⟩
  | .Neigh => ⟨⟨0, 0, 0, 0⟩, ⟨0, 0, 0, 0, 0, 0⟩, 0⟩
  | .Part => ⟨0, []⟩
  | .Hole => ⟨⟨0, 0, 0, 0⟩, ⟨0, 0, 0, 0⟩, 0, 0, 0, 0, 0, []⟩
  | .Wait => ⟨⟨0, 0, 0, 0⟩, [], 0⟩
  | .Thread => ⟨[], 0, 0, 0, [], 0, 0, false, []⟩
  | .Host => ⟨⟨0, 0, 0, 0, 0, 0⟩, ⟨0, 0, 0, 0⟩, [], [], [], [], ⟨[], 0, 0, 0, 0⟩, ⟨[], 0, 0, 0, 0⟩, ⟨⟨⟨0, 0, 0, 0⟩, [], 0⟩, ⟨[], [], []⟩, 0, 0⟩, [], 0⟩
  | .end => ⟨⟨0, ⟨⟨0, 0, 0, 0⟩, 0⟩, ⟨⟨0, 0, 0, 0⟩, 0⟩, 0, ⟨0, [], 0, false, false, false⟩, ⟨0, [], [], false, 0, false⟩, 0, 0, ⟨0, 0, 0⟩, 0, 0, false, 0, 0, 0, false, 0⟩, 0, []⟩
  | .table => ⟨⟨⟨0, 0, 0, 0⟩, [], 0⟩, []⟩
  | .node => ⟨⟨⟨0, 0, 0, 0, 0, 0⟩, ⟨0, 0, 0, 0⟩, [], [], [], [], ⟨[], 0, 0, 0, 0⟩, ⟨[], 0, 0, 0, 0⟩, ⟨⟨⟨0, 0, 0, 0⟩, [], 0⟩, ⟨[], [], []⟩, 0, 0⟩, [], 0⟩⟩
  | .Frame => ⟨⟨0, 0, 0, 0, 0, 0⟩, ⟨0, 0, 0, 0, 0, 0⟩, 0, []⟩
end Go.Eng

set_option linter.unusedVariables false
namespace Go.Eng

/-! ### 1. Abstract values and states -/

inductive AV
  | top
  | known (v : Value)
  | bool (b : Bool) | int (k : IntKind) (n : Int) | str (l : List UInt8)
  | nilp | ptr (nm off : Nat) | eptr (nm i sub : Nat) | iptr (c : Cd) (x : c.T) (sub : Nat)
  | nils | cap0 (c : Cd) | imm (c : Cd) (l : List c.T) | clip (c : Cd) (l : List c.T)
  | own (nm : Nat) (c : Cd) (off len : Nat) (tl : Bool)
  | xown (nm : Nat) (c : Cd) (off len : Nat)
  | fn (f : FuncId) (caps : List AV) | nilf
  | iface (t : TypeId) (v : AV) | nili
  | agg (cs : List AV) | tup (cs : List AV)

/-- A block: cells (exp), a row (row); lent ones (rexp, lrow) are only read; a frozen one (frz) is never written again. -/
inductive Blk
  | exp (cs : List AV)
  | row (c : Cd) (l : List c.T)
  | rexp (cs : List AV)
  | lrow (c : Cd) (l : List c.T)
  | frz (c : Cd) (l : List c.T)

abbrev AH := List (Nat × Blk)

structure St where
  tmps : List AV
  heap : AH
  ctr : Nat

def ifb {α : Type} (b : Bool) (x y : α) : α := match b with | true => x | false => y

def hget : AH → Nat → Option Blk
  | [], _ => none
  | (m, b) :: r, n => match Nat.beq m n with | true => some b | false => hget r n
/-- Sorted by name. -/
def hset : AH → Nat → Blk → AH
  | [], n, x => [(n, x)]
  | (m, b) :: r, n, x => match Nat.beq m n with
    | true => (n, x) :: r
    | false => match Nat.blt n m with
      | true => (n, x) :: (m, b) :: r
      | false => (m, b) :: hset r n x
def hdel : AH → Nat → AH
  | [], _ => []
  | (m, b) :: r, n => match Nat.beq m n with | true => hdel r n | false => (m, b) :: hdel r n
def hsetAll : AH → Nat → List Blk → AH
  | h, _, [] => h
  | h, n, b :: r => hsetAll (hset h n b) (n + 1) r

def getT : List AV → Nat → AV
  | [], _ => .top
  | a :: _, 0 => a
  | _ :: r, n + 1 => getT r n
def setT : List AV → Nat → AV → List AV
  | [], _, _ => []
  | _ :: r, 0, v => v :: r
  | a :: r, n + 1, v => a :: setT r n v
def putT (l : List AV) (d : Option Nat) (v : AV) : List AV := match d with
  | some t => setT l t v
  | none => l

/-- Bytes are below 256. -/
def inR (k : IntKind) (n : Int) : Bool := match k with
  | .u8 => decide (0 ≤ n) && decide (n < 256)
  | _ => true

def ofVal : Value → AV
  | .bool b => .bool b
  | .int k n => match inR k n with | true => .int k n | false => .top
  | .string s => .str s.data.toList
  | .pointer none => .nilp
  | .slice none 0 0 => .nils
  | .nilFunc => .nilf
  | .nilIface => .nili
  | _ => .top

def ev1 (tm : List AV) : Operand → AV
  | .tmp t => getT tm t
  | .const v => ofVal v
  | .global _ => .top
  | .func f => .fn f []

/-! ### 2. Typed data as cells -/

def csz : Cd → Nat
  | .st s => (lvs s).length
  | _ => 1

def encLeaf : (c : Cd) → c.T → AV
  | .u8, x => .int .u8 ((x : UInt8).toNat : Int)
  | .u16, x => .int .u16 x
  | .u32, x => .int .u32 x
  | .u64, x => .int .u64 x
  | .i64, x => .int .i64 x
  | .i32, x => .int .i32 x
  | .bool, x => .bool x
  | .str, x => .str x
  | .sl c, x => .imm c x
  | .st _, _ => .top
def encH : (cs : List Cd) → HL cs → List AV
  | [], _ => []
  | c :: cs, (x, r) => encLeaf c x :: encH cs r
def enc : (c : Cd) → c.T → List AV
  | .st s, x => encH (lvs s) (toH s x)
  | .u8, x => [encLeaf .u8 x]
  | .u16, x => [encLeaf .u16 x]
  | .u32, x => [encLeaf .u32 x]
  | .u64, x => [encLeaf .u64 x]
  | .i64, x => [encLeaf .i64 x]
  | .i32, x => [encLeaf .i32 x]
  | .bool, x => [encLeaf .bool x]
  | .str, x => [encLeaf .str x]
  | .sl c, x => [encLeaf (.sl c) x]

def dflt : (c : Cd) → c.T
  | .u8 => (0 : UInt8)
  | .u16 | .u32 | .u64 | .i64 | .i32 => (0 : Int)
  | .bool => false
  | .str => []
  | .sl _ => []
  | .st s => dfltS s

def castL (c d : Cd) (l : List c.T) : Option (List d.T) := if h : c = d then some (h ▸ l) else none

/-- A row's content as a list of typed elements; `bw`: rows that are still written count, too. -/
def rowL (h : AH) (bw : Bool) (nm : Nat) (d : Cd) : Option (List d.T) := match hget h nm with
  | some (.row c l) => match bw with | true => castL c d l | false => none
  | some (.lrow c l) => match bw with | true => castL c d l | false => none
  | some (.frz c l) => castL c d l
  | _ => none

def decInt (k : IntKind) (v : AV) : Option Int := match v with
  | .int .u8 n => match k with | .u8 => some n | _ => none
  | .int .u16 n => match k with | .u16 => some n | _ => none
  | .int .u32 n => match k with | .u32 => some n | _ => none
  | .int .u64 n => match k with | .u64 => some n | _ => none
  | .int .i64 n => match k with | .i64 => some n | _ => none
  | .int .i32 n => match k with | .i32 => some n | _ => none
  | _ => none
def decSl0 (h : AH) (bw : Bool) (d : Cd) (v : AV) : Option (List d.T) := match v with
  | .nils => some []
  | .cap0 _ => some []
  | .imm c l => castL c d l
  | .clip c l => castL c d l
  | .own nm c off len _ => match rowL h bw nm d with
    | some l => some ((l.drop off).take len)
    | none => none
  | _ => none
def decLeaf0 (h : AH) (bw : Bool) : (c : Cd) → AV → Option c.T
  | .u8, v => match decInt .u8 v with | some n => some (UInt8.ofNat n.toNat) | none => none
  | .u16, v => decInt .u16 v
  | .u32, v => decInt .u32 v
  | .u64, v => decInt .u64 v
  | .i64, v => decInt .i64 v
  | .i32, v => decInt .i32 v
  | .bool, v => match v with | .bool b => some b | _ => none
  | .str, v => match v with | .str l => some l | _ => none
  | .sl c, v => decSl0 h bw c v
  | .st _, _ => none
def decH0 (h : AH) (bw : Bool) : (cs : List Cd) → List AV → Option (HL cs)
  | [], [] => some ()
  | c :: cs, v :: vs => match decLeaf0 h bw c v with
    | some x => match decH0 h bw cs vs with
      | some r => some (x, r)
      | none => none
    | none => none
  | _, _ => none
def dec0 (h : AH) (bw : Bool) : (c : Cd) → List AV → Option c.T
  | .st s, vs => match decH0 h bw (lvs s) vs with | some x => some (ofH s x) | none => none
  | c, vs => match vs with | [v] => decLeaf0 h bw c v | _ => none
/-- Elements of c's size, one behind the other. -/
def decN0 (h : AH) (bw : Bool) (c : Cd) : Nat → List AV → Option (List c.T)
  | 0, _ => some []
  | n + 1, vs => match dec0 h bw c (vs.take (csz c)) with
    | some x => match decN0 h bw c n (vs.drop (csz c)) with
      | some r => some (x :: r)
      | none => none
    | none => none
/-- A slice's content; rows of cells are told, too. -/
def decSl (h : AH) (bw : Bool) (d : Cd) (v : AV) : Option (List d.T) := match v with
  | .xown nm c off len => match decEq c d with
    | isTrue _ => match hget h nm with
      | some (.exp cs) => decN0 h false d len (cs.drop (off * csz d))
      | some (.rexp cs) => decN0 h false d len (cs.drop (off * csz d))
      | _ => none
    | isFalse _ => none
  | v => decSl0 h bw d v

/-- Rows that a value names are not written any more. -/
def frzN (h : AH) (nm : Nat) : AH := match hget h nm with
  | some (.row c l) => hset h nm (.frz c l)
  | _ => h
def frzV (h : AH) : AV → AH
  | .own nm _ _ _ _ => frzN h nm
  | _ => h
def frzL : AH → List AV → AH
  | h, [] => h
  | h, v :: r => frzL (frzV h v) r

def cells : AV → List AV
  | .agg cs => cs
  | v => [v]

/-! ### 3. Types -/

section
variable (P : Program) (tc : Nat → Cd)

def isAgg? (t : TypeId) : Bool := match P.underlying t with
  | some (.struct _) => true
  | some (.array _ _) => true
  | _ => false
def pack (t : TypeId) (cs : List AV) : Option AV := match isAgg? P t with
  | true => some (.agg cs)
  | false => match cs with | [v] => some v | _ => none
/-- Its cells are known. -/
def boxable : AV → Bool
  | .top => false
  | .known _ => false
  | .tup _ => false
  | .agg [] => false
  | _ => true

def allBox : List AV → Bool
  | [] => true
  | v :: r => match boxable v with | true => allBox r | false => false
def zeroCs (t : TypeId) : Option (List AV) := match P.info? t with
  | some i => match i.zero with
    | some v => match allBox (v.cells.toList.map ofVal) with
      | true => some (v.cells.toList.map ofVal)
      | false => none
    | none => none
  | none => none

def zeroAV (t : TypeId) : Option AV := match P.info? t with
  | some i => match i.zero with
    | some (.agg cs) => match allBox (cs.toList.map ofVal) with
      | true => some (.agg (cs.toList.map ofVal))
      | false => none
    | some v => some (ofVal v)
    | none => none
  | none => none

/-! ### 4. Operations that only give a value -/

abbrev RV := Option (Bool × AV)
def pv (v : AV) : RV := some (true, v)

def cmpI (op : BinOp) (x y : Int) : Option Bool := match op with
  | .eql => some (x == y)
  | .neq => some (x != y)
  | .lss => some (decide (x < y))
  | .leq => some (decide (x ≤ y))
  | .gtr => some (decide (x > y))
  | .geq => some (decide (x ≥ y))
  | _ => none
def bitI (op : BinOp) (k : IntKind) (x y : Int) : Int :=
  let a := BitVec.ofInt k.bits x
  let b := BitVec.ofInt k.bits y
  match op with
  | .and => k.wrap (a &&& b).toNat
  | .or => k.wrap (a ||| b).toNat
  | .xor => k.wrap (a ^^^ b).toNat
  | _ => k.wrap (a &&& ~~~b).toNat
def shN (k : IntKind) (y : Int) : Nat := min y.toNat k.bits

def kEq : IntKind → IntKind → Bool
  | .u8, .u8 | .u16, .u16 | .u32, .u32 | .u64, .u64 | .i8, .i8 | .i16, .i16 | .i32, .i32 | .i64, .i64 => true
  | _, _ => false

def andL {α : Type} : List α → Bool → Bool → Bool
  | [], r, _ => r
  | _ :: _, r, q => r && q
def andK : Nat → Bool → Bool → Bool
  | 0, r, _ => r
  | _ + 1, r, q => r && q
def part? (t : TypeId) (cs : List AV) (off : Nat) : Option AV := match isAgg? P t with
  | true => match Nat.ble (off + P.cellsOf t) cs.length with
    | true => some (.agg ((cs.drop off).take (P.cellsOf t)))
    | false => none
  | false => match Nat.blt off cs.length with
    | true => some (getT cs off)
    | false => none
mutual
/-- Equality of values of types all of whose parts are whole numbers, bools and texts, and all of whose fields count. -/
def eqIn : Nat → TypeId → AV → AV → Option Bool
  | 0, _, _, _ => none
  | n + 1, t, x, y => match P.underlying t with
    | some .bool => match x, y with | .bool a, .bool b => some (a == b) | _, _ => none
    | some (.int _) => match x, y with
      | .int k a, .int k' b => match kEq k k' with | true => some (a == b) | false => none
      | _, _ => none
    | some .string => match x, y with | .str a, .str b => some (a == b) | _, _ => none
    | some (.struct fs) => match P.stoodInHeld t, x, y with
      | false, .agg a, .agg b => eqFs n fs.toList a b
      | _, _, _ => none
    | some (.array len e) => match Nat.beq (P.cellsOf e) 0, x, y with
      | false, .agg a, .agg b => eqAr n e (P.cellsOf e) len 0 a b
      | _, _, _ => none
    | _ => none
def eqFs : Nat → List Field → List AV → List AV → Option Bool
  | 0, _, _, _ => none
  | _, [], _, _ => some true
  | n + 1, f :: fs, a, b => match f.name == "_", part? P f.type a f.offset, part? P f.type b f.offset with
    | false, some x, some y => match eqIn n f.type x y, eqFs n fs a b with
      | some r, some q => some (andL fs r q)
      | _, _ => none
    | _, _, _ => none
def eqAr : Nat → TypeId → Nat → Nat → Nat → List AV → List AV → Option Bool
  | 0, _, _, _, _, _, _ => none
  | _, _, _, 0, _, _, _ => some true
  | n + 1, e, sz, k + 1, i, a, b => match part? P e a (i * sz), part? P e b (i * sz) with
    | some x, some y => match eqIn n e x y, eqAr n e sz k (i + 1) a b with
      | some r, some q => some (andK k r q)
      | _, _ => none
    | _, _ => none
end

def eqlB (op : BinOp) (r : Bool) : RV := match op with
  | .eql => pv (.bool r)
  | .neq => pv (.bool (!r))
  | _ => none

def opBin (op : BinOp) (t : TypeId) (x y : AV) : RV := match x, y with
  | .int k a, .int k' b => match op with
    | .shl => some (decide (0 ≤ b), .int k (k.wrap (a * 2 ^ shN k b)))
    | .shr => some (decide (0 ≤ b), .int k (a.fdiv (2 ^ shN k b)))
    | op => match kEq k k' with
      | false => none
      | true => match op with
        | .add => pv (.int k (k.wrap (a + b)))
        | .sub => pv (.int k (k.wrap (a - b)))
        | .mul => pv (.int k (k.wrap (a * b)))
        | .quo => some (b != 0, .int k (k.wrap (a.tdiv b)))
        | .rem => some (b != 0, .int k (a.tmod b))
        | .and => pv (.int k (bitI .and k a b))
        | .or => pv (.int k (bitI .or k a b))
        | .xor => pv (.int k (bitI .xor k a b))
        | .andNot => pv (.int k (bitI .andNot k a b))
        | op => match cmpI op a b with | some r => pv (.bool r) | none => none
  | .str a, .str b => match op with
    | .add => some (decide (a.length + b.length ≤ 9223372036854775807), .str (a ++ b))
    | op => eqlB op (a == b)
  | .bool a, .bool b => match P.underlying t with
    | some .bool => eqlB op (a == b)
    | _ => none
  | .agg a, .agg b => match eqIn P 40 t (.agg a) (.agg b) with
    | some r => eqlB op r
    | none => none
  | x, .nilp => match P.underlying t with
    | some (.pointer _) => match x with
      | .nilp => eqlB op true
      | .ptr _ _ => eqlB op false
      | .eptr _ _ _ => eqlB op false
      | .iptr _ _ _ => eqlB op false
      | _ => none
    | _ => none
  | .iface _ _, .nili => match P.underlying t with
    | some (.interface _) => eqlB op false
    | _ => none
  | _, _ => none

def opUn (op : UnOp) (x : AV) : RV := match op, x with
  | .not, .bool b => pv (.bool (!b))
  | .neg, .int k n => pv (.int k (k.wrap (0 - n)))
  | .xor, .int k n => pv (.int k (bitI .xor k (match k.signed with | true => -1 | false => k.max) n))
  | _, _ => none

def opConvP (src dst : TypeId) (x : AV) : RV := match P.underlying src, P.underlying dst, x with
  | some _, some (.int k), .int _ n => pv (.int k (k.wrap n))
  | some .string, some .string, .str l => pv (.str l)
  | _, _, _ => none

def isSome {α : Type} : Option α → Bool
  | some _ => true
  | none => false
def fldOf (t : TypeId) (f : Nat) : Option Field := match P.underlying t with
  | some (.struct fs) => fs[f]?
  | _ => none

def opFieldAddr (t : TypeId) (x : AV) (f : Nat) : RV := match fldOf P t f with
  | some fd => match Nat.beq (P.cellsOf fd.type) 0 with
    | true => none
    | false => match x with
      | .ptr nm off => pv (.ptr nm (off + fd.offset))
      | .eptr nm i sub => pv (.eptr nm i (sub + fd.offset))
      | .iptr c y sub => pv (.iptr c y (sub + fd.offset))
      | _ => none
  | none => none
def opField (t : TypeId) (x : AV) (f : Nat) : RV := match fldOf P t f, x with
  | some fd, .agg cs => match isSome (P.underlying fd.type) && Nat.ble (fd.offset + P.cellsOf fd.type) cs.length with
    | true => match pack P fd.type ((cs.drop fd.offset).take (P.cellsOf fd.type)) with | some v => pv v | none => none
    | false => none
  | _, _ => none

def inB (i : Int) (n : Nat) : Bool := decide (0 ≤ i) && decide (i < (n : Int))

def opIndexAddr (t : TypeId) (x i : AV) : RV := match i with
  | .int _ i => match P.underlying t, x with
    | some (.array n e), .ptr nm off => match Nat.beq (P.cellsOf e) 0 with
      | false => some (inB i n, .ptr nm (off + i.toNat * P.cellsOf e))
      | true => none
    | some (.slice e), .imm c l => match Nat.beq (P.cellsOf e) (csz c) with
      | true => some (inB i l.length, .iptr c (l.getD i.toNat (dflt c)) 0)
      | false => none
    | some (.slice e), .clip c l => match Nat.beq (P.cellsOf e) (csz c) with
      | true => some (inB i l.length, .iptr c (l.getD i.toNat (dflt c)) 0)
      | false => none
    | some (.slice e), .own nm c off len _ => match Nat.beq (P.cellsOf e) (csz c) with
      | true => some (inB i len, .eptr nm (off + i.toNat) 0)
      | false => none
    | some (.slice e), .xown nm c off len => match Nat.beq (P.cellsOf e) (csz c) with
      | true => some (inB i len, .ptr nm ((off + i.toNat) * csz c))
      | false => none
    | _, _ => none
  | _ => none

/-- An array as a value, or a text, at an index. -/
def opIndex (t : TypeId) (x i : AV) : RV := match i with
  | .int _ i => match P.underlying t, x with
    | some .string, .str l => some (inB i l.length, .int .u8 ((l.getD i.toNat 0).toNat : Int))
    | _, _ => none
  | _ => none

def sB (tm : List AV) (o : Option Operand) (d : Int) : Option Int := match o with
  | none => some d
  | some x => match ev1 tm x with | .int _ n => some n | _ => none
/-- Both bounds are the number 0, by their text. -/
def isZ : Option Operand → Bool
  | some (.const (.int _ 0)) => true
  | _ => false
def okS (lo hi : Int) (n : Nat) : Bool := decide (0 ≤ lo) && (decide (lo ≤ hi) && decide (hi ≤ (n : Int)))
def isNone {α : Type} : Option α → Bool
  | none => true
  | _ => false

def opSl3 (e : TypeId) (x : AV) (a b m : Option Int) : RV := match x, a, b, m with
  | .imm c l, some a, some b, some m => some (Nat.beq (P.cellsOf e) (csz c) && (okS a b l.length && decide (b = m)), .clip c ((l.drop a.toNat).take (b - a).toNat))
  | .clip c l, some a, some b, some m => some (Nat.beq (P.cellsOf e) (csz c) && (okS a b l.length && decide (b = m)), .clip c ((l.drop a.toNat).take (b - a).toNat))
  | .xown nm c off len, some a, some b, some m => some (Nat.beq (P.cellsOf e) (csz c) && (okS a b len && decide (b = m)), .xown nm c (off + a.toNat) (b - a).toNat)
  | _, _, _, _ => none

def opSlice (tm : List AV) (t : TypeId) (x : AV) (lo hi mx : Option Operand) : RV :=
  match P.underlying t with
  | some (.array n e) => match x, lo, hi, mx with
    | .ptr nm off, none, none, none => match Nat.beq (P.cellsOf e) 1 && Nat.beq (csz (tc e)) 1 with
      | true => pv (.xown nm (tc e) off n)
      | false => none
    | .ptr nm off, lo, hi, none => match Nat.beq (P.cellsOf e) 1 && Nat.beq (csz (tc e)) 1, sB tm lo 0, sB tm hi n with
      | true, some l, some h => some (okS l h n, .xown nm (tc e) (off + l.toNat) (h - l).toNat)
      | _, _, _ => none
    | _, _, _, _ => none
  | some .string => match x, mx with
    | .str s, none => match sB tm lo 0, sB tm hi s.length with
      | some l, some h => some (okS l h s.length, .str ((s.drop l.toNat).take (h - l).toNat))
      | _, _ => none
    | _, _ => none
  | some (.slice e) => match isSome (P.info? e) with
   | false => none
   | true => match mx with
    | some m => match isNone lo && (isZ hi && isZ mx) with
      | true => match x with
        | .imm c _ => pv (.cap0 c)
        | .clip c _ => pv (.cap0 c)
        | .nils => pv .nils
        | .own _ c _ _ _ => pv (.cap0 c)
        | .cap0 c => pv (.cap0 c)
        | _ => none
      | false => match isNone hi with
        | true => none
        | false => opSl3 P e x (sB tm lo 0) (sB tm hi 0) (sB tm mx 0)
    | none => match x with
      | .nils => match sB tm lo 0, sB tm hi 0 with
        | some a, some b => some (okS a b 0, .nils)
        | _, _ => none
      | .imm c l => match Nat.beq (P.cellsOf e) (csz c), sB tm lo 0, sB tm hi l.length with
        | true, some a, some b => some (okS a b l.length, .imm c ((l.drop a.toNat).take (b - a).toNat))
        | _, _, _ => none
      | .clip c l => match Nat.beq (P.cellsOf e) (csz c), sB tm lo 0, sB tm hi l.length with
        | true, some a, some b => some (okS a b l.length, .imm c ((l.drop a.toNat).take (b - a).toNat))
        | _, _, _ => none
      | .own nm c off len tl => match Nat.beq (P.cellsOf e) (csz c), sB tm lo 0, sB tm hi len with
        | true, some a, some b => some (okS a b len, .own nm c (off + a.toNat) (b - a).toNat (isNone hi && tl))
        | _, _, _ => none
      | .xown nm c off len => match Nat.beq (P.cellsOf e) (csz c), sB tm lo 0, sB tm hi len with
        | true, some a, some b => some (okS a b len, .xown nm c (off + a.toNat) (b - a).toNat)
        | _, _, _ => none
      | _ => none
  | _ => none

def opLen (t : TypeId) (x : AV) : RV := match P.underlying t with
  | some (.array n _) => pv (.int .i64 n)
  | some (.pointer e) => match P.underlying e with
    | some (.array n _) => pv (.int .i64 n)
    | _ => none
  | some .string => match x with | .str l => pv (.int .i64 (l.length : Int)) | _ => none
  | some (.slice _) => match x with
    | .nils => pv (.int .i64 0)
    | .cap0 _ => pv (.int .i64 0)
    | .imm _ l => pv (.int .i64 (l.length : Int))
    | .clip _ l => pv (.int .i64 (l.length : Int))
    | .own _ _ _ n _ => pv (.int .i64 (n : Int))
    | .xown _ _ _ n => pv (.int .i64 (n : Int))
    | _ => none
  | _ => none

def fillP (P : Program) : List (Nat × AV) → (Nat → Option (Nat × Nat)) → List AV → Option (List AV)
  | [], _, cs => some cs
  | (i, v) :: r, pl, cs => match pl i with
    | none => none
    | some (off, n) => match boxable v && (Nat.beq (cells v).length n && Nat.ble (off + n) cs.length) with
      | true => fillP P r pl (cs.take off ++ (cells v ++ cs.drop (off + n)))
      | false => none
def opBuild (tm : List AV) (t : TypeId) (ps : List (Nat × Operand)) : RV := match zeroCs P t with
  | none => none
  | some z =>
    let vs := ps.map fun p => (p.1, ev1 tm p.2)
    match P.underlying t with
    | some (.struct fs) => match fs.toList.all (fun f => isSome (P.info? f.type)), fillP P vs (fun i => match fs.toList[i]? with | some f => some (f.offset, P.cellsOf f.type) | none => none) z with
      | true, some cs => pv (.agg cs)
      | _, _ => none
    | some (.array _ e) => match isSome (P.info? e), fillP P vs (fun i => some (i * P.cellsOf e, P.cellsOf e)) z with
      | true, some cs => pv (.agg cs)
      | _, _ => none
    | _ => none

def opAssert (x : AV) (asserted : TypeId) (ok : Bool) : RV := match P.underlying asserted with
  | none => none
  | some (.interface _) => none
  | some _ => match x with
    | .iface t v => match Nat.beq t asserted with
      | true => pv (match ok with | true => .tup [v, .bool true] | false => v)
      | false => match ok with
        | true => match zeroAV P asserted with
          | some v => pv (.tup [v, .bool false])
          | none => none
        | false => none
    | .nili => match ok with
      | true => match zeroAV P asserted with
        | some v => pv (.tup [v, .bool false])
        | none => none
      | false => none
    | _ => none

def minI (x y : Int) : Int := if y < x then y else x
def maxI (x y : Int) : Int := if x < y then y else x
def foldMM (f : Int → Int → Int) : AV → List AV → Option AV
  | x, [] => some x
  | .int k x, .int k' y :: r => match kEq k k' with | true => foldMM f (.int k (f x y)) r | false => none
  | _, _ => none

def isCn : Operand → Bool
  | .const _ => true
  | _ => false

/-- Operations on slots alone. -/
def opP (tm : List AV) (o : Oper) : RV := match o.op with
  | .move x | .assign x => pv (ev1 tm x)
  | .pick c a b => match ev1 tm c with
    | .bool t => pv (match t with | true => ev1 tm a | false => ev1 tm b)
    | _ => none
  | .nilCheck x => match ev1 tm x with
    | .ptr nm off => pv (.ptr nm off)
    | .eptr nm i sub => pv (.eptr nm i sub)
    | .iptr c y sub => pv (.iptr c y sub)
    | _ => none
  | .binOp op t x y _ => match ev1 tm x, ev1 tm y with
    | .nili, .nili => match isCn x || isCn y, P.underlying t with
      | true, some (.interface _) => eqlB op true
      | _, _ => none
    | .agg a, .agg b => match P.eqGuardType P.depth t with
      | false => opBin P op t (.agg a) (.agg b)
      | true => none
    | a, b => opBin P op t a b
  | .unOp op _ x => opUn op (ev1 tm x)
  | .convert s d x => opConvP P s d (ev1 tm x)
  | .makeInterface t x => match P.underlying t with
    | some (.interface _) => none
    | some _ => pv (.iface t (ev1 tm x))
    | none => none
  | .makeFunc (.func f) fs cs => match fs.toList with
    | [] => pv (.fn f (cs.toList.map (ev1 tm)))
    | _ => none
  | .fieldAddr t x f => opFieldAddr P t (ev1 tm x) f
  | .field t x f => opField P t (ev1 tm x) f
  | .indexAddr t x i => opIndexAddr P t (ev1 tm x) (ev1 tm i)
  | .index t x i => opIndex P t (ev1 tm x) (ev1 tm i)
  | .slice t x lo hi mx => opSlice P tc tm t (ev1 tm x) lo hi mx
  | .typeAssert x _ a ok => opAssert P (ev1 tm x) a ok
  | .extract x i => match ev1 tm x with
    | .tup vs => match vs[i]? with | some v => pv v | none => none
    | _ => none
  | .build t ps => opBuild P tm t ps.toList
  | .call c => match c.callee with
    | .builtin .len => match c.args.toList, c.argTypes.toList with
      | [x], [t] => opLen P t (ev1 tm x)
      | _, _ => none
    | .builtin .min => match c.args.toList with
      | x :: r => match foldMM minI (ev1 tm x) (r.map (ev1 tm)) with | some v => pv v | none => none
      | _ => none
    | .builtin .max => match c.args.toList with
      | x :: r => match foldMM maxI (ev1 tm x) (r.map (ev1 tm)) with | some v => pv v | none => none
      | _ => none
    | _ => none
  | _ => none

/-! ### 5. Operations that read memory, or make some -/

abbrev RN := Option (Bool × AV × List Blk)
def nv (v : AV) (bs : List Blk) : RN := some (true, v, bs)

def expCs (h : AH) (nm : Nat) : Option (List AV) := match hget h nm with
  | some (.exp cs) => some cs
  | some (.rexp cs) => some cs
  | _ => none
def rowCs (h : AH) (nm i : Nat) : Option (List AV) := match hget h nm with
  | some (.row c l) => some (enc c (l.getD i (dflt c)))
  | some (.lrow c l) => some (enc c (l.getD i (dflt c)))
  | some (.frz c l) => some (enc c (l.getD i (dflt c)))
  | _ => none
def cutCs (cs : Option (List AV)) (off n : Nat) : Option (List AV) := match cs with
  | some cs => match Nat.ble (off + n) cs.length with
    | true => some ((cs.drop off).take n)
    | false => none
  | none => none
def loadCs (h : AH) (n : Nat) (p : AV) : Option (List AV) := match p with
  | .ptr nm off => cutCs (expCs h nm) off n
  | .eptr nm i sub => cutCs (rowCs h nm i) sub n
  | .iptr c x sub => cutCs (some (enc c x)) sub n
  | _ => none

def mkSl (nb : Nat) (c : Cd) (n : Nat) (cs : List AV) : AV × Blk := match decN0 [] false c n cs with
  | some l => (.own nb c 0 n true, .row c l)
  | none => (.xown nb c 0 n, .exp cs)
def fillS (n : Nat) : List (Nat × AV) → List AV → Option (List AV)
  | [], cs => some cs
  | (i, v) :: r, cs => match boxable v && (Nat.beq (cells v).length n && Nat.ble (i * n + n) cs.length) with
    | true => fillS n r (cs.take (i * n) ++ (cells v ++ cs.drop (i * n + n)))
    | false => none
def repL : Nat → List AV → List AV
  | 0, _ => []
  | n + 1, l => l ++ repL n l

def opN (h : AH) (tm : List AV) (nb : Nat) (o : Oper) : RN := match o.op with
  | .box t x => match boxable (ev1 tm x) with
    | true => nv (.ptr nb 0) [.exp (cells (ev1 tm x))]
    | false => none
  | .alloc t => match zeroCs P t with
    | some z => match Nat.beq z.length 0 with
      | true => none
      | false => nv (.ptr nb 0) [.exp z]
    | none => none
  | .load t p => match isSome (P.underlying t), loadCs h (P.cellsOf t) (ev1 tm p) with
    | true, some cs => match pack P t cs with | some v => nv v [] | none => none
    | _, _ => none
  | .buildSlice t n ps => match P.underlying t with
    | some (.slice e) => match zeroCs P e with
      | some z => match Nat.beq z.length (csz (tc e)) && (Nat.beq (P.cellsOf e) (csz (tc e)) && Nat.ble (n * csz (tc e)) 16777216) with
        | true => match fillS (csz (tc e)) (ps.toList.map fun p => (p.1, ev1 tm p.2)) (repL n z) with
          | some cs => match mkSl nb (tc e) n cs with | (v, b) => nv v [b]
          | none => none
        | false => none
      | none => none
    | _ => none
  | .makeSlice t n m => match P.underlying t with
    | some (.slice e) => match P.info? e, zeroCs P e, ev1 tm n, ev1 tm m with
      | some i, some z, .int .i64 a, .int .i64 b => match dec0 [] false (tc e) z with
        | some x => some ((Nat.ble i.bytes 65536 && Nat.beq (P.cellsOf e) (csz (tc e))) && (decide (a = b) && (decide (0 ≤ a) && decide (a ≤ 4294967296))), .own nb (tc e) 0 a.toNat true, [.row (tc e) (List.replicate a.toNat x)])
        | none => none
      | _, _, _, _ => none
    | _ => none
  | .convert s d x => match P.underlying s, P.underlying d with
    | some (.slice e), some .string => match P.underlying e with
      | some (.int .u8) => match decSl h true .u8 (ev1 tm x) with
        | some l => nv (.str l) []
        | none => none
      | _ => none
    | some .string, some (.slice e) => match P.underlying e, ev1 tm x with
      | some (.int .u8), .str l => nv (.own nb .u8 0 l.length true) [.row .u8 l]
      | _, _ => none
    | some (.slice _), some (.slice e) => match P.underlying e, ev1 tm x with
      | some (.int .u8), .own nm .u8 off len tl => match Nat.beq s d, hget h nm with
        | true, some (.row _ _) => some (decide (0 < len), .own nm .u8 off len tl, [])
        | _, _ => none
      | _, _ => none
    | _, _ => none
  | _ => none

/-! ### 6. Operations that write memory -/

abbrev RW := Option (Bool × AV × AH)

def storeCs (h : AH) (p : AV) (vs : List AV) : Option AH := match p with
  | .ptr nm off => match hget h nm with
    | some (.exp cs) => match Nat.ble (off + vs.length) cs.length with
      | true => some (hset h nm (.exp (cs.take off ++ (vs ++ cs.drop (off + vs.length)))))
      | false => none
    | _ => none
  | .eptr nm i sub => match hget (frzL h vs) nm with
    | some (.row c l) => match Nat.ble (sub + vs.length) (csz c) with
      | true => match dec0 (frzL h vs) false c ((enc c (l.getD i (dflt c))).take sub ++ (vs ++ (enc c (l.getD i (dflt c))).drop (sub + vs.length))) with
        | some x => some (hset (frzL h vs) nm (.row c (l.set i x)))
        | none => none
      | false => none
    | _ => none
  | _ => none

def capOf (c : Cd) : Nat := match c with | .u8 => 140737488355328 | _ => 4294967296

/-- The list that is put behind another one, or over it. -/
def srcL (h : AH) (c : Cd) (y : AV) : Option (List c.T × AH) := match y with
  | .str s => match castL .u8 c s with | some l => some (l, h) | none => none
  | .xown nm c' off len => match decEq c' c with
    | isTrue _ => match expCs h nm with
      | some cs => match decN0 (frzL h cs) false c len (cs.drop (off * csz c)) with
        | some l => some (l, frzL h cs)
        | none => none
      | none => none
    | isFalse _ => none
  | y => match decSl0 h true c y with | some l => some (l, h) | none => none

def lenOk (a b : Nat) (c : Cd) : Bool := decide (a + b ≤ capOf c)

def opAppend (h : AH) (nb : Nat) (e : TypeId) (x y : AV) : RW :=
  match srcL h (tc e) y with
  | none => none
  | some (ys, h) => match x with
    | .nils => some (lenOk 0 ys.length (tc e), .own nb (tc e) 0 ys.length true, hset h nb (.row (tc e) ys))
    | .cap0 _ => some (lenOk 0 ys.length (tc e), .own nb (tc e) 0 ys.length true, hset h nb (.row (tc e) ys))
    | .own nm c off len true => match hget h nm with
      | some (.row c' l) => match castL c' (tc e) l with
        | some l => some (lenOk len ys.length (tc e), .own nb (tc e) 0 (len + ys.length) true, hset (hdel h nm) nb (.row (tc e) (l.drop off ++ ys)))
        | none => none
      | _ => none
    | .clip c l => match castL c (tc e) l with
      | some l => some (lenOk l.length ys.length (tc e), .imm (tc e) (l ++ ys), h)
      | none => none
    | _ => none

/-- Cells of numbers, of which some are written over. -/
def ovr (src : List UInt8) : Nat → Nat → List AV → Option (List AV)
  | _, 0, cs => some cs
  | _, _ + 1, [] => none
  | i, n + 1, .int .u8 x :: r => match ovr src (i + 1) n r with
    | some r => some (.int .u8 (ifb (decide (i < src.length)) ((src.getD i 0).toNat : Int) x) :: r)
    | none => none
  | _, _, _ => none

def opCopy (h : AH) (e : TypeId) (x y : AV) : RW := match x with
  | .own nm c off len _ => match srcL h (tc e) y with
    | some (ys, h') => match hget h' nm with
      | some (.row c' l) => match castL c' (tc e) l with
        | some l => some (true, .int .i64 (min ys.length len : Nat), hset h' nm (.row (tc e) (l.take off ++ (ys.take len ++ l.drop (off + min ys.length len)))))
        | none => none
      | _ => none
    | none => none
  | .xown nm .u8 off len => match hget h nm, Nat.beq (csz (tc e)) 1 with
    | some (.exp cs), true => match decSl h true .u8 y with
      | some ys => match ovr ys 0 len (cs.drop off) with
        | some r => some (true, .int .i64 (min ys.length len : Nat), hset h nm (.exp (cs.take off ++ r)))
        | none => none
      | none => none
    | _, _ => none
  | _ => none

def opClear (h : AH) (e : TypeId) (x : AV) : RW := match x with
  | .nils => some (true, .tup [], h)
  | .cap0 _ => some (true, .tup [], h)
  | .own nm c off len _ => match hget h nm with
    | some (.row c' l) => match castL c' (tc e) l, zeroCs P e with
      | some l, some z => match dec0 [] false (tc e) z with
        | some x => some (true, .tup [], hset h nm (.row (tc e) (l.take off ++ (List.replicate len x ++ l.drop (off + len)))))
        | none => none
      | _, _ => none
    | _ => none
  | _ => none

def notInt : Option TypeDesc → Bool
  | some (.slice _) => true
  | some .string => true
  | _ => false
/-- Elements have the code's size, and not many bytes; their zero value is known. -/
def rowOk (e : TypeId) : Bool := match P.info? e, zeroCs P e with
  | some i, some z => Nat.beq i.size (csz (tc e)) && (Nat.beq z.length (csz (tc e)) && Nat.ble i.bytes (match tc e with | .u8 => 1 | _ => 32768))
  | _, _ => false
def opW (h : AH) (tm : List AV) (nb : Nat) (o : Oper) : RW := match o.op with
  | .store t p v => match boxable (ev1 tm v) && Nat.beq (cells (ev1 tm v)).length (P.cellsOf t) with
    | true => match storeCs h (ev1 tm p) (cells (ev1 tm v)) with
      | some h => some (true, .top, h)
      | none => none
    | false => none
  | .call c => match c.callee, c.args.toList, c.argTypes.toList with
    | .builtin .append, [x, y], [t, t2] => match P.underlying t, notInt (P.underlying t2) with
      | some (.slice e), true => match rowOk P tc e with
        | true => opAppend tc h nb e (ev1 tm x) (ev1 tm y)
        | false => none
      | _, _ => none
    | .builtin .copy, [x, y], t :: _ => match P.underlying t with
      | some (.slice e) => match rowOk P tc e with
        | true => opCopy tc h e (ev1 tm x) (ev1 tm y)
        | false => none
      | _ => none
    | .builtin .clear, [x], t :: _ => match P.underlying t with
      | some (.slice e) => match rowOk P tc e with
        | true => opClear P tc h e (ev1 tm x)
        | false => none
      | _ => none
    | _, _, _ => none
  | _ => none
end
end Go.Eng
